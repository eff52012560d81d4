/- What several claims of this seat share: contracts of the functions that they reach. -/
import Derived.Test.YtgbapkechngnmaaGreatU6DP1
import Derived.Test.YtgbapkechngnmaaGreatRd
import Derived.Deep.MidRow
import Derived.Test.YtgbapkechngnmaaGreatRows
import Derived.WalkKit
import Derived.WalkSpells
import Derived.WalkLawsBesides
import Derived.BigQuiet
import Derived.Deep.QuietTactic
import Derived.Lib.Hide
import Derived.Deep.DeepCutAuto
import Derived.Laws.Tables
import Derived.Test.YtgbapkechngnmaaGreatAppRd
import Derived.Great.BuildSlice
import Derived.Deep.OwnRows
import Derived.Great.Ranges
import Derived.Laws.BitsLemmas
import Derived.Test.YtgbapkechngnmaaGreatBox
import Derived.Test.YtgbapkechngnmaaGreatShelf
import Derived.Deep.LoopGhost
import Derived.Laws.AppendOwn
import Derived.Maps.AppendAt
import Derived.Lib.SliceRun

/- What a pattern says: a tree, and the texts of a tree; the builder's states say the same. No program in sight. -/
namespace Go.Proofs.YtgbapkechngnmaaGreat
inductive Re where
 | no
 | eps
 | set (S : Nat → Bool)
 | cat (a b : Re)
 | alt (a b : Re)
 | star (a : Re)
 | plus (a : Re)
 | opt (a : Re)
inductive Lr : Re → List Nat → Prop
 | eps : Lr .eps []
 | set {S : Nat → Bool} {c : Nat} : S c = true → Lr (.set S) [c]
 | cat {a b : Re} {x y : List Nat} : Lr a x → Lr b y → Lr (.cat a b) (x ++ y)
 | altl {a b : Re} {x : List Nat} : Lr a x → Lr (.alt a b) x
 | altr {a b : Re} {x : List Nat} : Lr b x → Lr (.alt a b) x
 | star0 {a : Re} : Lr (.star a) []
 | star1 {a : Re} {x y : List Nat} : Lr a x → Lr (.star a) y → Lr (.star a) (x ++ y)
 | plus {a : Re} {x y : List Nat} : Lr a x → Lr (.star a) y → Lr (.plus a) (x ++ y)
 | opt0 {a : Re} : Lr (.opt a) []
 | opt1 {a : Re} {x : List Nat} : Lr a x → Lr (.opt a) x
inductive Pa (sts : List St) : Nat → List Nat → Nat → Nat → Prop
 | refl (k : Nat) : Pa sts k [] k 0
 | free {j f k n : Nat} {cs : List Nat} {x : St} : sts[j]? = some x → f ∈ x.free → Pa sts f cs k n → Pa sts j cs k (n + 1)
 | byte {j k c n : Nat} {cs : List Nat} {x : St} : sts[j]? = some x → goB x c = true → Pa sts x.next cs k n → Pa sts j (c :: cs) k (n + 1)
theorem Pa.trans {sts : List St} {j k l n m : Nat} {x y : List Nat} (h : Pa sts j x k n) (h' : Pa sts k y l m) : Pa sts j (x ++ y) l (n + m) := by
 induction h with
 | refl => simpa using h'
 | free h1 h2 _ ih => rw [Nat.add_right_comm]; exact Pa.free h1 h2 (ih h')
 | byte h1 h2 _ ih => rw [Nat.add_right_comm]; exact Pa.byte h1 h2 (ih h')
theorem Pa.inv {sts : List St} {j g n : Nat} {cs : List Nat} (h : Pa sts j cs g n) : (cs = [] ∧ j = g) ∨ (∃ x f m, sts[j]? = some x ∧ f ∈ x.free ∧ Pa sts f cs g m) ∨ ∃ x c cs' m, cs = c :: cs' ∧ sts[j]? = some x ∧ goB x c = true ∧ Pa sts x.next cs' g m := by
 cases h with
 | refl => exact .inl ⟨rfl, rfl⟩
 | free h1 h2 h3 => exact .inr (.inl ⟨_, _, _, h1, h2, h3⟩)
 | byte h1 h2 h3 => exact .inr (.inr ⟨_, _, _, _, rfl, h1, h2, h3⟩)
def Shut (sts : List St) (R : Nat → Prop) : Prop := ∀ k, R k → ∀ x, sts[k]? = some x → (∀ g ∈ x.free, R g) ∧ (x.set.isSome = true → R x.next)
theorem goB_some {x : St} {c : Nat} (h : goB x c = true) : x.set.isSome = true := by
 unfold goB at h
 split at h
 ·rename_i f hf; rw [hf]; rfl
 ·cases h
theorem Pa.same {sts sts' : List St} {R : Nat → Prop} (hs : Shut sts R) (he : ∀ k, R k → sts'[k]? = sts[k]?) {j g n : Nat} {cs : List Nat} (h : Pa sts' j cs g n) (hj : R j) : Pa sts j cs g n := by
 induction h with
 | refl => exact .refl _
 | free h1 h2 _ ih => rw [he _ hj] at h1; exact .free h1 h2 (ih ((hs _ hj _ h1).1 _ h2))
 | byte h1 h2 _ ih => rw [he _ hj] at h1; exact .byte h1 h2 (ih ((hs _ hj _ h1).2 (goB_some h2)))
theorem Pa.more {sts sts' : List St} {R : Nat → Prop} (hs : Shut sts R) (he : ∀ k, R k → ∀ x, sts[k]? = some x → ∃ x', sts'[k]? = some x' ∧ (∀ g ∈ x.free, g ∈ x'.free) ∧ x'.set = x.set ∧ x'.next = x.next) {j g n : Nat} {cs : List Nat} (h : Pa sts j cs g n) (hj : R j) : Pa sts' j cs g n := by
 induction h with
 | refl => exact .refl _
 | free h1 h2 _ ih =>
  obtain ⟨x', e1, e2, _, _⟩ := he _ hj _ h1
  exact .free e1 (e2 _ h2) (ih ((hs _ hj _ h1).1 _ h2))
 | byte h1 h2 _ ih =>
  obtain ⟨x', e1, _, e3, e4⟩ := he _ hj _ h1
  refine .byte e1 (by unfold goB at h2 ⊢; rw [e3]; exact h2) ?_
  rw [e4]
  exact ih ((hs _ hj _ h1).2 (goB_some h2))
theorem Pa.exit {sts sts' : List St} {R : Nat → Prop} {t g : Nat} (hs : Shut sts R) (he : ∀ k, R k → k ≠ t → sts'[k]? = sts[k]?) (hg : R g → g = t) {j n : Nat} {cs : List Nat} (h : Pa sts' j cs g n) (hj : R j) :
  ∃ x y n1 n2, cs = x ++ y ∧ Pa sts j x t n1 ∧ Pa sts' t y g n2 ∧ n2 ≤ n := by
 induction h with
 | refl => 
  have := hg hj
  subst this
  exact ⟨[], [], 0, 0, rfl, .refl _, .refl _, Nat.le_refl _⟩
 | free h1 h2 h3 ih =>
  rename_i j f k n cs x
  by_cases hjt : j = t
  ·subst hjt
   exact ⟨[], cs, 0, n + 1, rfl, .refl _, .free h1 h2 h3, Nat.le_refl _⟩
  ·rw [he _ hj hjt] at h1
   obtain ⟨x1, y1, n1, n2, e1, e2, e3, e4⟩ := ih hg ((hs _ hj _ h1).1 _ h2)
   exact ⟨x1, y1, n1 + 1, n2, e1, .free h1 h2 e2, e3, by omega⟩
 | byte h1 h2 h3 ih =>
  rename_i j k c n cs x
  by_cases hjt : j = t
  ·subst hjt
   exact ⟨[], c :: cs, 0, n + 1, rfl, .refl _, .byte h1 h2 h3, Nat.le_refl _⟩
  ·rw [he _ hj hjt] at h1
   obtain ⟨x1, y1, n1, n2, e1, e2, e3, e4⟩ := ih hg ((hs _ hj _ h1).2 (goB_some h2))
   exact ⟨c :: x1, y1, n1 + 1, n2, by rw [e1]; rfl, .byte h1 h2 e2, e3, by omega⟩
theorem Pa.first {sts : List St} {t g n nx : Nat} {l cs : List Nat} (h : Pa sts t cs g n) (ht : sts[t]? = some ⟨none, nx, l⟩) : (cs = [] ∧ t = g) ∨ ∃ f ∈ l, ∃ m, m < n ∧ Pa sts f cs g m := by
 cases h with
 | refl => exact .inl ⟨rfl, rfl⟩
 | free h1 h2 h3 =>
  rw [ht] at h1
  obtain rfl := Option.some.inj h1
  exact .inr ⟨_, h2, _, Nat.lt_succ_self _, h3⟩
 | byte h1 h2 h3 =>
  rw [ht] at h1
  obtain rfl := Option.some.inj h1
  cases goB_some h2
theorem addF_look (l : List St) (f t j : Nat) : (addF l f t)[j]? = if j = f then (l[j]?).map (fun x => { x with free := x.free ++ [t] }) else l[j]? := by
 induction l generalizing f j with
 | nil => simp [addF]
 | cons x l ih =>
  cases f with
  | zero => cases j <;> simp [addF]
  | succ f => cases j with
   | zero => simp [addF]
   | succ j => simp only [addF, List.getElem?_cons_succ, ih]; simp
theorem addF_ne {l : List St} {f t j : Nat} (h : j ≠ f) : (addF l f t)[j]? = l[j]? := by rw [addF_look, if_neg h]
theorem addF_eq {l : List St} {f t : Nat} {x : St} (h : l[f]? = some x) : (addF l f t)[f]? = some { x with free := x.free ++ [t] } := by rw [addF_look, if_pos rfl, h]; rfl
structure Frg (sts : List St) (lo hi f t : Nat) (a : Re) : Prop where
 f0 : lo ≤ f
 f1 : f < hi
 t0 : lo ≤ t
 t1 : t < hi
 hl : hi ≤ sts.length
 shut : Shut sts (fun k => lo ≤ k ∧ k < hi)
 sink : sts[t]? = some ⟨none, 0, []⟩
 noin : ∀ k, lo ≤ k → k < hi → ∀ x, sts[k]? = some x → (∀ g ∈ x.free, g ≠ f) ∧ (x.set.isSome = true → x.next ≠ f)
 lang : ∀ cs, (∃ n, Pa sts f cs t n) ↔ Lr a cs
def nd : St := ⟨none, 0, []⟩
theorem Pa.sink {sts : List St} {t g n : Nat} {cs : List Nat} (h : Pa sts t cs g n) (ht : sts[t]? = some ⟨none, 0, []⟩) : cs = [] ∧ t = g := by
 rcases h.first ht with h1 | ⟨f, hf, _⟩
 ·exact h1
 ·cases hf
theorem frg_no (l : List St) : Frg (l ++ [nd, nd]) l.length (l.length + 2) l.length (l.length + 1) .no := by
 have g0 : (l ++ [nd, nd])[l.length]? = some ⟨none, 0, []⟩ := by rw [List.getElem?_append_right (Nat.le_refl _)]; simp [nd]
 have g1 : (l ++ [nd, nd])[l.length + 1]? = some ⟨none, 0, []⟩ := by rw [List.getElem?_append_right (by omega)]; simp [nd]
 have ge : ∀ k, l.length ≤ k → k < l.length + 2 → ∀ x, (l ++ [nd, nd])[k]? = some x → x = nd := fun k h1 h2 x hx => by
  rcases (show k = l.length ∨ k = l.length + 1 by omega) with rfl | rfl
  ·rw [g0] at hx; exact (Option.some.inj hx).symm
  ·rw [g1] at hx; exact (Option.some.inj hx).symm
 refine ⟨Nat.le_refl _, by omega, by omega, by omega, by simp, ?_, g1, ?_, ?_⟩
 ·rintro k ⟨h1, h2⟩ x hx
  rw [ge k h1 h2 x hx]
  exact ⟨(fun _ h => by cases h), (fun h => by cases h)⟩
 ·intro k h1 h2 x hx
  rw [ge k h1 h2 x hx]
  exact ⟨(fun _ h => by cases h), (fun h => by cases h)⟩
 ·intro cs
  constructor
  ·rintro ⟨n, h⟩
   have := (h.sink g0).2
   omega
  ·intro h; cases h
theorem frg_eps (l : List St) : Frg (l ++ [nd]) l.length (l.length + 1) l.length l.length .eps := by
 have g0 : (l ++ [nd])[l.length]? = some ⟨none, 0, []⟩ := by rw [List.getElem?_append_right (Nat.le_refl _)]; simp [nd]
 have ge : ∀ k, l.length ≤ k → k < l.length + 1 → ∀ x, (l ++ [nd])[k]? = some x → x = nd := fun k h1 h2 x hx => by
  obtain rfl : k = l.length := by omega
  rw [g0] at hx; exact (Option.some.inj hx).symm
 refine ⟨Nat.le_refl _, by omega, by omega, by omega, by simp, ?_, g0, ?_, ?_⟩
 ·rintro k ⟨h1, h2⟩ x hx
  rw [ge k h1 h2 x hx]
  exact ⟨(fun _ h => by cases h), (fun h => by cases h)⟩
 ·intro k h1 h2 x hx
  rw [ge k h1 h2 x hx]
  exact ⟨(fun _ h => by cases h), (fun h => by cases h)⟩
 ·intro cs
  constructor
  ·rintro ⟨n, h⟩
   rw [(h.sink g0).1]
   exact .eps
  ·intro h
   cases h
   exact ⟨0, .refl _⟩
theorem frg_set (l : List St) (S : Nat → Bool) : Frg (l ++ [⟨some S, l.length + 1, []⟩, nd]) l.length (l.length + 2) l.length (l.length + 1) (.set S) := by
 have g0 : (l ++ [⟨some S, l.length + 1, []⟩, nd])[l.length]? = some ⟨some S, l.length + 1, []⟩ := by rw [List.getElem?_append_right (Nat.le_refl _)]; simp
 have g1 : (l ++ [⟨some S, l.length + 1, []⟩, nd])[l.length + 1]? = some ⟨none, 0, []⟩ := by rw [List.getElem?_append_right (by omega)]; simp [nd]
 have ge : ∀ k, l.length ≤ k → k < l.length + 2 → ∀ x, (l ++ [⟨some S, l.length + 1, []⟩, nd])[k]? = some x → x = ⟨some S, l.length + 1, []⟩ ∨ x = nd := fun k h1 h2 x hx => by
  rcases (show k = l.length ∨ k = l.length + 1 by omega) with rfl | rfl
  ·rw [g0] at hx; exact .inl (Option.some.inj hx).symm
  ·rw [g1] at hx; exact .inr (Option.some.inj hx).symm
 refine ⟨Nat.le_refl _, by omega, by omega, by omega, by simp, ?_, g1, ?_, ?_⟩
 ·rintro k ⟨h1, h2⟩ x hx
  rcases ge k h1 h2 x hx with rfl | rfl
  ·exact ⟨(fun _ h => by cases h), fun _ => ⟨by simp, by simp⟩⟩
  ·exact ⟨(fun _ h => by cases h), (fun h => by cases h)⟩
 ·intro k h1 h2 x hx
  rcases ge k h1 h2 x hx with rfl | rfl
  ·exact ⟨(fun _ h => by cases h), fun _ => by simp⟩
  ·exact ⟨(fun _ h => by cases h), (fun h => by cases h)⟩
 ·intro cs
  constructor
  ·rintro ⟨n, h⟩
   rcases h.inv with ⟨_, e⟩ | ⟨x, f, m, h1, h2, _⟩ | ⟨x, c, cs', m, rfl, h1, h2, h3⟩
   ·omega
   ·rw [g0] at h1; obtain rfl := Option.some.inj h1; cases h2
   ·rw [g0] at h1
    obtain rfl := Option.some.inj h1
    rw [(h3.sink g1).1]
    exact .set h2
  ·intro h
   cases h with
   | set h => exact ⟨1, .byte g0 h (.refl _)⟩
theorem Frg.cat {sts0 sts1 : List St} {lo f t hi xf xt : Nat} {a b : Re} (h : Frg sts0 lo sts0.length f t a) (he : ∀ k, k < sts0.length → sts1[k]? = sts0[k]?) (hx : Frg sts1 sts0.length hi xf xt b) :
  Frg (addF sts1 t xf) lo hi f xt (.cat a b) := by
 have ht1 := h.t1
 have hf1 := h.f1
 have hf0 := h.f0
 have xf0 := hx.f0
 have xf1 := hx.f1
 have xt0 := hx.t0
 have gt : (addF sts1 t xf)[t]? = some ⟨none, 0, [xf]⟩ := by rw [addF_eq ((he t ht1).trans h.sink)]; rfl
 have go : ∀ k, k < sts0.length → k ≠ t → (addF sts1 t xf)[k]? = sts0[k]? := fun k hk hne => (addF_ne hne).trans (he k hk)
 have gx : ∀ k, sts0.length ≤ k → (addF sts1 t xf)[k]? = sts1[k]? := fun k hk => addF_ne (by omega)
 refine ⟨hf0, by omega, by have := h.f0; omega, hx.t1, by rw [addF_len]; exact hx.hl, ?_, by rw [gx _ xt0]; exact hx.sink, ?_, ?_⟩
 ·rintro k ⟨h1, h2⟩ x hxk
  by_cases hk : k < sts0.length
  ·by_cases hkt : k = t
   ·subst hkt
    rw [gt] at hxk
    obtain rfl := Option.some.inj hxk
    refine ⟨fun g hg => ?_, (fun h => by cases h)⟩
    rw [List.mem_singleton.1 hg]
    exact ⟨by omega, by omega⟩
   ·rw [go k hk hkt] at hxk
    obtain ⟨q1, q2⟩ := h.shut k ⟨h1, hk⟩ x hxk
    exact ⟨fun g hg => ⟨(q1 g hg).1, by have := (q1 g hg).2; omega⟩, fun hs => ⟨(q2 hs).1, by have := (q2 hs).2; omega⟩⟩
  ·rw [gx k (by omega)] at hxk
   obtain ⟨q1, q2⟩ := hx.shut k ⟨by omega, h2⟩ x hxk
   exact ⟨fun g hg => ⟨by have := (q1 g hg).1; omega, (q1 g hg).2⟩, fun hs => ⟨by have := (q2 hs).1; omega, (q2 hs).2⟩⟩
 ·intro k h1 h2 x hxk
  by_cases hk : k < sts0.length
  ·by_cases hkt : k = t
   ·subst hkt
    rw [gt] at hxk
    obtain rfl := Option.some.inj hxk
    refine ⟨fun g hg => ?_, (fun h => by cases h)⟩
    rw [List.mem_singleton.1 hg]
    omega
   ·rw [go k hk hkt] at hxk
    exact h.noin k h1 hk x hxk
  ·rw [gx k (by omega)] at hxk
   obtain ⟨q1, q2⟩ := hx.shut k ⟨by omega, h2⟩ x hxk
   exact ⟨fun g hg => by have := (q1 g hg).1; omega, fun hs => by have := (q2 hs).1; omega⟩
 ·intro cs
  constructor
  ·rintro ⟨n, hp⟩
   obtain ⟨x, y, n1, n2, rfl, p1, p2, _⟩ := hp.exit h.shut (fun k hk hne => go k hk.2 hne) (fun hg => absurd hg.2 (by omega)) ⟨hf0, hf1⟩
   rcases p2.first gt with ⟨_, e⟩ | ⟨g, hg, m, _, p3⟩
   ·omega
   ·rw [List.mem_singleton.1 hg] at p3
    exact .cat ((h.lang x).1 ⟨_, p1⟩) ((hx.lang y).1 ⟨_, p3.same hx.shut (fun k hk => gx k hk.1) ⟨xf0, xf1⟩⟩)
  ·intro hl
   cases hl with
   | cat l1 l2 =>
    obtain ⟨n1, p1⟩ := (h.lang _).2 l1
    obtain ⟨n2, p2⟩ := (hx.lang _).2 l2
    have q1 := p1.more (sts' := addF sts1 t xf) h.shut (fun k hk x hxk => by
     by_cases hkt : k = t
     ·subst hkt
      rw [h.sink] at hxk
      obtain rfl := Option.some.inj hxk
      exact ⟨_, gt, (fun _ h => by cases h), rfl, rfl⟩
     ·exact ⟨x, (go k hk.2 hkt).trans hxk, fun _ h => h, rfl, rfl⟩) ⟨hf0, hf1⟩
    have q2 := p2.same (sts := addF sts1 t xf) (sts' := sts1) (R := fun k => sts0.length ≤ k ∧ k < hi) (fun k hk x hxk => hx.shut k hk x ((gx k hk.1).symm.trans hxk)) (fun k hk => (gx k hk.1).symm) ⟨xf0, xf1⟩
    exact ⟨_, q1.trans (.free gt (List.mem_singleton.2 rfl) q2)⟩
theorem Frg.alt {sts0 sts1 : List St} {lo f t hi xf xt : Nat} {a b : Re} (h : Frg sts0 lo sts0.length f t a) (hft : f ≠ t) (he : ∀ k, k < sts0.length → sts1[k]? = sts0[k]?) (hx : Frg sts1 sts0.length hi xf xt b) :
  Frg (addF (addF sts1 f xf) xt t) lo hi f t (.alt a b) := by
 have ht1 := h.t1
 have hf1 := h.f1
 have hf0 := h.f0
 have ht0 := h.t0
 have xf0 := hx.f0
 have xf1 := hx.f1
 have xt0 := hx.t0
 have xt1 := hx.t1
 obtain ⟨z, hz⟩ : ∃ z, sts0[f]? = some z := ⟨_, List.getElem?_eq_getElem hf1⟩
 obtain ⟨zs, zn, zf⟩ := z
 have gf : (addF (addF sts1 f xf) xt t)[f]? = some ⟨zs, zn, zf ++ [xf]⟩ := by rw [addF_ne (by omega), addF_eq ((he f hf1).trans hz)]
 have gxt : (addF (addF sts1 f xf) xt t)[xt]? = some ⟨none, 0, [t]⟩ := by
  rw [addF_eq (x := ⟨none, 0, []⟩) (by rw [addF_ne (by omega)]; exact hx.sink)]; rfl
 have go : ∀ k, k < sts0.length → k ≠ f → (addF (addF sts1 f xf) xt t)[k]? = sts0[k]? := fun k hk hne => by rw [addF_ne (by omega), addF_ne hne, he k hk]
 have gx : ∀ k, sts0.length ≤ k → k ≠ xt → (addF (addF sts1 f xf) xt t)[k]? = sts1[k]? := fun k hk hne => by rw [addF_ne hne, addF_ne (by omega)]
 have gt : (addF (addF sts1 f xf) xt t)[t]? = some ⟨none, 0, []⟩ := (go t ht1 (Ne.symm hft)).trans h.sink
 obtain ⟨sf1, sf2⟩ := h.shut f ⟨hf0, hf1⟩ _ hz
 obtain ⟨nf1, nf2⟩ := h.noin f hf0 hf1 _ hz
 refine ⟨hf0, by omega, ht0, by omega, by rw [addF_len, addF_len]; exact hx.hl, ?_, gt, ?_, ?_⟩
 ·rintro k ⟨h1, h2⟩ x hxk
  by_cases hk : k < sts0.length
  ·by_cases hkf : k = f
   ·subst hkf
    rw [gf] at hxk
    obtain rfl := Option.some.inj hxk
    refine ⟨fun g hg => ?_, fun hs => ⟨(sf2 hs).1, by have := (sf2 hs).2; dsimp only at this ⊢; omega⟩⟩
    rcases List.mem_append.1 hg with hg | hg
    ·exact ⟨(sf1 g hg).1, by have := (sf1 g hg).2; omega⟩
    ·rw [List.mem_singleton.1 hg]
     exact ⟨by omega, by omega⟩
   ·rw [go k hk hkf] at hxk
    obtain ⟨q1, q2⟩ := h.shut k ⟨h1, hk⟩ x hxk
    exact ⟨fun g hg => ⟨(q1 g hg).1, by have := (q1 g hg).2; omega⟩, fun hs => ⟨(q2 hs).1, by have := (q2 hs).2; omega⟩⟩
  ·by_cases hkx : k = xt
   ·subst hkx
    rw [gxt] at hxk
    obtain rfl := Option.some.inj hxk
    refine ⟨fun g hg => ?_, (fun h => by cases h)⟩
    rw [List.mem_singleton.1 hg]
    exact ⟨ht0, by omega⟩
   ·rw [gx k (by omega) hkx] at hxk
    obtain ⟨q1, q2⟩ := hx.shut k ⟨by omega, h2⟩ x hxk
    exact ⟨fun g hg => ⟨by have := (q1 g hg).1; omega, (q1 g hg).2⟩, fun hs => ⟨by have := (q2 hs).1; omega, (q2 hs).2⟩⟩
 ·intro k h1 h2 x hxk
  by_cases hk : k < sts0.length
  ·by_cases hkf : k = f
   ·subst hkf
    rw [gf] at hxk
    obtain rfl := Option.some.inj hxk
    refine ⟨fun g hg => ?_, nf2⟩
    rcases List.mem_append.1 hg with hg | hg
    ·exact nf1 g hg
    ·rw [List.mem_singleton.1 hg]; omega
   ·rw [go k hk hkf] at hxk
    exact h.noin k h1 hk x hxk
  ·by_cases hkx : k = xt
   ·subst hkx
    rw [gxt] at hxk
    obtain rfl := Option.some.inj hxk
    refine ⟨fun g hg => ?_, (fun h => by cases h)⟩
    rw [List.mem_singleton.1 hg]
    exact Ne.symm hft
   ·rw [gx k (by omega) hkx] at hxk
    obtain ⟨q1, q2⟩ := hx.shut k ⟨by omega, h2⟩ x hxk
    exact ⟨fun g hg => by have := (q1 g hg).1; omega, fun hs => by have := (q2 hs).1; omega⟩
 ·intro cs
  have shutF : Shut sts0 (fun k => (lo ≤ k ∧ k < sts0.length) ∧ k ≠ f) := fun k hk x hxk => by
   obtain ⟨q1, q2⟩ := h.shut k hk.1 x hxk
   obtain ⟨q3, q4⟩ := h.noin k hk.1.1 hk.1.2 x hxk
   exact ⟨fun g hg => ⟨q1 g hg, q3 g hg⟩, fun hs => ⟨q2 hs, q4 hs⟩⟩
  constructor
  ·rintro ⟨n, hp⟩
   cases hp with
   | refl => exact absurd rfl hft
   | free h1 h2 h3 =>
    rw [gf] at h1
    obtain rfl := Option.some.inj h1
    rcases List.mem_append.1 h2 with hg | hg
    ·exact .altl ((h.lang cs).1 ⟨_, .free hz hg (h3.same shutF (fun k hk => go k hk.1.2 hk.2) ⟨sf1 _ hg, nf1 _ hg⟩)⟩)
    ·rw [List.mem_singleton.1 hg] at h3
     obtain ⟨x, y, n1, n2, rfl, p1, p2, _⟩ := h3.exit hx.shut (fun k hk hne => gx k hk.1 hne) (fun hg => absurd hg.1 (by omega)) ⟨xf0, xf1⟩
     rcases p2.first gxt with ⟨_, e⟩ | ⟨g, hg, m, _, p3⟩
     ·omega
     ·rw [List.mem_singleton.1 hg] at p3
      rw [(p3.sink gt).1, List.append_nil]
      exact .altr ((hx.lang x).1 ⟨_, p1⟩)
   | byte h1 h2 h3 =>
    rw [gf] at h1
    obtain rfl := Option.some.inj h1
    have hs := goB_some h2
    exact .altl ((h.lang _).1 ⟨_, .byte hz h2 (h3.same shutF (fun k hk => go k hk.1.2 hk.2) ⟨sf2 hs, nf2 hs⟩)⟩)
  ·intro hl
   cases hl with
   | altl l1 =>
    obtain ⟨n1, p1⟩ := (h.lang _).2 l1
    exact ⟨_, p1.more (sts' := addF (addF sts1 f xf) xt t) h.shut (fun k hk x hxk => by
     by_cases hkt : k = f
     ·subst hkt
      rw [hz] at hxk
      obtain rfl := Option.some.inj hxk
      exact ⟨_, gf, fun _ h => List.mem_append_left _ h, rfl, rfl⟩
     ·exact ⟨x, (go k hk.2 hkt).trans hxk, fun _ h => h, rfl, rfl⟩) ⟨hf0, hf1⟩⟩
   | altr l2 =>
    obtain ⟨n2, p2⟩ := (hx.lang _).2 l2
    have q2 := p2.more (sts' := addF (addF sts1 f xf) xt t) hx.shut (fun k hk x hxk => by
     by_cases hkt : k = xt
     ·subst hkt
      rw [hx.sink] at hxk
      obtain rfl := Option.some.inj hxk
      exact ⟨_, gxt, (fun _ h => by cases h), rfl, rfl⟩
     ·exact ⟨x, (gx k hk.1 hkt).trans hxk, fun _ h => h, rfl, rfl⟩) ⟨xf0, xf1⟩
    have q3 := Pa.free gf (List.mem_append_right _ (List.mem_singleton.2 rfl)) (q2.trans (.free gxt (List.mem_singleton.2 rfl) (.refl t)))
    rw [List.append_nil] at q3
    exact ⟨_, q3⟩
def postR : Bool → Bool → Re → Re
 | true, true, a => .star a
 | false, true, a => .plus a
 | true, false, a => .opt a
 | false, false, a => a
theorem Frg.post {sts0 sts' : List St} {lo xf xt : Nat} {a : Re} (h : Frg sts0 lo sts0.length xf xt a) (skip again : Bool)
  (hlen : sts'.length = sts0.length + 2) (go : ∀ k, k < sts0.length → k ≠ xt → sts'[k]? = sts0[k]?)
  (gF : sts'[sts0.length]? = some ⟨none, 0, [xf] ++ (if skip = true then [sts0.length + 1] else [])⟩)
  (gx : sts'[xt]? = some ⟨none, 0, [sts0.length + 1] ++ (if again = true then [xf] else [])⟩)
  (gT : sts'[sts0.length + 1]? = some ⟨none, 0, []⟩) (r : Re)
  (hr : r = postR skip again a) :
  Frg sts' lo (sts0.length + 2) sts0.length (sts0.length + 1) r := by
 have f0 := h.f0
 have f1 := h.f1
 have t0 := h.t0
 have t1 := h.t1
 have one : ∀ {cs n}, Pa sts' xf cs (sts0.length + 1) n → ∃ x y, cs = x ++ y ∧ Lr a x ∧ (y = [] ∨ (again = true ∧ ∃ m, m < n ∧ Pa sts' xf y (sts0.length + 1) m)) := by
  intro cs n hp
  obtain ⟨x, y, n1, n2, rfl, p1, p2, hn⟩ := hp.exit h.shut (fun k hk hne => go k hk.2 hne) (fun hg => absurd hg.2 (by omega)) ⟨f0, f1⟩
  refine ⟨x, y, rfl, (h.lang x).1 ⟨_, p1⟩, ?_⟩
  rcases p2.first gx with ⟨_, e⟩ | ⟨g, hg, m, hm, p3⟩
  ·omega
  ·rcases List.mem_append.1 hg with hg | hg
   ·rw [List.mem_singleton.1 hg] at p3
    exact .inl (p3.sink gT).1
   ·split at hg
    ·rename_i ha
     rw [List.mem_singleton.1 hg] at p3
     exact .inr ⟨ha, m, by omega, p3⟩
    ·cases hg
 have many : ∀ n, ∀ cs, Pa sts' xf cs (sts0.length + 1) n → ∃ x y, cs = x ++ y ∧ Lr a x ∧ (again = false → y = []) ∧ Lr (.star a) y := by
  intro n
  induction n using Nat.strongRecOn with
  | ind n ih =>
   intro cs hp
   obtain ⟨x, y, e, l1, h1 | ⟨h1, m, hm, p3⟩⟩ := one hp
   ·subst h1; exact ⟨x, [], e, l1, fun _ => rfl, .star0⟩
   ·obtain ⟨x', y', e', l1', _, l3⟩ := ih m hm y p3
    exact ⟨x, y, e, l1, (fun h => by rw [h1] at h; cases h), by rw [e']; exact .star1 l1' l3⟩
 have up : ∀ {x n}, Pa sts0 xf x xt n → Pa sts' xf x xt n := fun p => p.more h.shut (fun k hk x hxk => by
  by_cases hkt : k = xt
  ·subst hkt
   rw [h.sink] at hxk
   obtain rfl := Option.some.inj hxk
   exact ⟨_, gx, (fun _ h => by cases h), rfl, rfl⟩
  ·exact ⟨x, (go k hk.2 hkt).trans hxk, fun _ h => h, rfl, rfl⟩) ⟨f0, f1⟩
 have out : ∀ {x}, Lr a x → ∃ n, Pa sts' xf x (sts0.length + 1) n := fun {x} l => by
  obtain ⟨n, p⟩ := (h.lang x).2 l
  have := (up p).trans (.free gx (List.mem_append_left _ (List.mem_singleton.2 rfl)) (.refl _))
  rw [List.append_nil] at this
  exact ⟨_, this⟩
 have loop : ∀ {x y n}, again = true → Lr a x → Pa sts' xf y (sts0.length + 1) n → ∃ n, Pa sts' xf (x ++ y) (sts0.length + 1) n := fun {x y n} ha l p2 => by
  obtain ⟨n, p⟩ := (h.lang x).2 l
  exact ⟨_, (up p).trans (.free gx (List.mem_append_right _ (by rw [ha]; exact List.mem_singleton.2 rfl)) p2)⟩
 have loops : again = true → ∀ {r y}, Lr r y → r = .star a → ∀ {x}, Lr a x → ∃ n, Pa sts' xf (x ++ y) (sts0.length + 1) n := fun ha r y l => by
  induction l with
  | star0 => intro _ x lx; rw [List.append_nil]; exact out lx
  | star1 l1 _ _ ih2 =>
   intro e x lx
   cases e
   obtain ⟨n, p⟩ := ih2 rfl l1
   exact loop ha lx p
  | _ => intro e; cases e
 refine ⟨by omega, by omega, by omega, by omega, by omega, ?_, gT, ?_, ?_⟩
 ·rintro k ⟨h1, h2⟩ x hxk
  rcases (show (k < sts0.length ∧ k ≠ xt) ∨ k = xt ∨ k = sts0.length ∨ k = sts0.length + 1 by omega) with ⟨hk, hkt⟩ | rfl | rfl | rfl
  ·rw [go k hk hkt] at hxk
   obtain ⟨q1, q2⟩ := h.shut k ⟨h1, hk⟩ x hxk
   exact ⟨fun g hg => ⟨(q1 g hg).1, by have := (q1 g hg).2; omega⟩, fun hs => ⟨(q2 hs).1, by have := (q2 hs).2; omega⟩⟩
  ·rw [gx] at hxk
   obtain rfl := Option.some.inj hxk
   refine ⟨fun g hg => ?_, (fun h => by cases h)⟩
   rcases List.mem_append.1 hg with hg | hg
   ·rw [List.mem_singleton.1 hg]; exact ⟨by omega, by omega⟩
   ·split at hg
    ·rw [List.mem_singleton.1 hg]; exact ⟨by omega, by omega⟩
    ·cases hg
  ·rw [gF] at hxk
   obtain rfl := Option.some.inj hxk
   refine ⟨fun g hg => ?_, (fun h => by cases h)⟩
   rcases List.mem_append.1 hg with hg | hg
   ·rw [List.mem_singleton.1 hg]; exact ⟨by omega, by omega⟩
   ·split at hg
    ·rw [List.mem_singleton.1 hg]; exact ⟨by omega, by omega⟩
    ·cases hg
  ·rw [gT] at hxk
   obtain rfl := Option.some.inj hxk
   exact ⟨(fun _ h => by cases h), (fun h => by cases h)⟩
 ·intro k h1 h2 x hxk
  rcases (show (k < sts0.length ∧ k ≠ xt) ∨ k = xt ∨ k = sts0.length ∨ k = sts0.length + 1 by omega) with ⟨hk, hkt⟩ | rfl | rfl | rfl
  ·rw [go k hk hkt] at hxk
   obtain ⟨q1, q2⟩ := h.shut k ⟨h1, hk⟩ x hxk
   exact ⟨fun g hg => by have := (q1 g hg).2; omega, fun hs => by have := (q2 hs).2; omega⟩
  ·rw [gx] at hxk
   obtain rfl := Option.some.inj hxk
   refine ⟨fun g hg => ?_, (fun h => by cases h)⟩
   rcases List.mem_append.1 hg with hg | hg
   ·rw [List.mem_singleton.1 hg]; omega
   ·split at hg
    ·rw [List.mem_singleton.1 hg]; omega
    ·cases hg
  ·rw [gF] at hxk
   obtain rfl := Option.some.inj hxk
   refine ⟨fun g hg => ?_, (fun h => by cases h)⟩
   rcases List.mem_append.1 hg with hg | hg
   ·rw [List.mem_singleton.1 hg]; omega
   ·split at hg
    ·rw [List.mem_singleton.1 hg]; omega
    ·cases hg
  ·rw [gT] at hxk
   obtain rfl := Option.some.inj hxk
   exact ⟨(fun _ h => by cases h), (fun h => by cases h)⟩
 ·intro cs
  have hin : ∀ {n}, Pa sts' xf cs (sts0.length + 1) n → ∃ n, Pa sts' sts0.length cs (sts0.length + 1) n := fun p => ⟨_, .free gF (List.mem_append_left _ (List.mem_singleton.2 rfl)) p⟩
  constructor
  ·rintro ⟨n, hp⟩
   rcases hp.first gF with ⟨_, e⟩ | ⟨g, hg, m, _, p3⟩
   ·omega
   ·rcases List.mem_append.1 hg with hg | hg
    ·rw [List.mem_singleton.1 hg] at p3
     obtain ⟨x, y, rfl, l1, l2, l3⟩ := many _ _ p3
     subst hr
     cases skip <;> cases again
     ·rw [l2 rfl, List.append_nil]; exact l1
     ·exact .plus l1 l3
     ·rw [l2 rfl, List.append_nil]; exact .opt1 l1
     ·exact .star1 l1 l3
    ·split at hg
     ·rename_i hs
      rw [List.mem_singleton.1 hg] at p3
      rw [(p3.sink gT).1]
      subst hr
      rw [hs]
      cases again
      ·exact .opt0
      ·exact .star0
     ·cases hg
  ·intro hl
   subst hr
   have hskip : skip = true → ∃ n, Pa sts' sts0.length [] (sts0.length + 1) n := fun hs => ⟨_, .free gF (List.mem_append_right _ (by rw [hs]; exact List.mem_singleton.2 rfl)) (.refl _)⟩
   cases skip <;> cases again
   ·obtain ⟨n, p⟩ := out hl; exact hin p
   ·cases hl with
    | plus l1 l2 => obtain ⟨n, p⟩ := loops rfl l2 rfl l1; exact hin p
   ·cases hl with
    | opt0 => exact hskip rfl
    | opt1 l => obtain ⟨n, p⟩ := out l; exact hin p
   ·cases hl with
    | star0 => exact hskip rfl
    | star1 l1 l2 => obtain ⟨n, p⟩ := loops rfl l2 rfl l1; exact hin p
end Go.Proofs.YtgbapkechngnmaaGreat
/- The reference's ends, plainly: of each tree the places at which a text of it may end. No program in sight. -/
namespace Go.Proofs.YtgbapkechngnmaaGreat
def sl (B : List Nat) (i j : Nat) : List Nat := (B.drop i).take (j - i)
def En (B : List Nat) (a : Re) (X : Nat → Prop) (j : Nat) : Prop := j ≤ B.length ∧ ∃ i, i ≤ j ∧ X i ∧ Lr a (sl B i j)
theorem En.congr {B : List Nat} {a : Re} {X Y : Nat → Prop} {j : Nat} (h : ∀ i, i ≤ B.length → (X i ↔ Y i)) : En B a X j ↔ En B a Y j := by
 unfold En
 constructor
 ·rintro ⟨h1, i, h2, h3, h4⟩
  exact ⟨h1, i, h2, (h i (by omega)).1 h3, h4⟩
 ·rintro ⟨h1, i, h2, h3, h4⟩
  exact ⟨h1, i, h2, (h i (by omega)).2 h3, h4⟩
def Ei (B : List Nat) (a : Re) (X : Nat → Prop) : Nat → Nat → Prop
 | 0, j => j ≤ B.length ∧ X j
 | m + 1, j => En B a (Ei B a X m) j
end Go.Proofs.YtgbapkechngnmaaGreat
/- The reference's tree in memory: a node has 258 cells. -/
namespace Go.Proofs.YtgbapkechngnmaaGreat
open Go.RowKit
def boolC (S : Nat → Bool) : List Value := (List.range 256).map fun c => .bool (S c)
def nodeC (k : Int) (S : Nat → Bool) (kv : Value) : List Value := .int .i64 k :: (boolC S ++ [kv])
theorem boolC_len (S : Nat → Bool) : (boolC S).length = 256 := by unfold boolC; simp
theorem nodeC_len (k : Int) (S : Nat → Bool) (kv : Value) : (nodeC k S kv).length = 258 := by
 unfold nodeC; rw [List.length_cons, List.length_append, boolC_len]; rfl
theorem nodeC_set (k : Int) (S : Nat → Bool) (kv : Value) (c : Nat) (hc : c < 256) : (nodeC k S kv)[1 + c]? = some (.bool (S c)) := by
 unfold nodeC
 rw [Nat.add_comm, List.getElem?_cons_succ, List.getElem?_append_left (by rw [boolC_len]; exact hc)]
 unfold boolC
 rw [List.getElem?_map, List.getElem?_range hc]
 rfl
theorem nodeC_kids (k : Int) (S : Nat → Bool) (kv : Value) : (nodeC k S kv)[257]? = some kv := by
 unfold nodeC
 rw [show (257 : Nat) = 256 + 1 by rfl, List.getElem?_cons_succ, List.getElem?_append_right (by rw [boolC_len]; exact Nat.le_refl _), boolC_len]
 rfl
theorem nodeC_one (k : Int) (S : Nat → Bool) (kv : Value) (h : kv.oneCell' = true) : ∀ y ∈ nodeC k S kv, y.oneCell' = true := by
 intro y hy
 unfold nodeC boolC at hy
 rcases List.mem_cons.1 hy with rfl | hy
 ·rfl
 ·rcases List.mem_append.1 hy with hy | hy
  ·obtain ⟨c, _, rfl⟩ := List.mem_map.1 hy
   rfl
  ·rw [List.mem_singleton.1 hy]; exact h
structure KidsAt (w : World) (P : Nat → Prop) (kv : Value) (l : List (List Value)) : Prop where
 row : RdAt w kv l.length 258 l.flatten
 each : ∀ x ∈ l, x.length = 258
 own : ∀ q, kv.ownBlock = some q → P q
 few : l.length ≤ 1000000
inductive NA (w : World) (P : Nat → Prop) : Nat → List (List Value) → Re → Prop
 | set (S : Nat → Bool) (kv : Value) : NA w P 0 [nodeC 0 S kv] (.set S)
 | alts {l : List (List Value)} {a : Re} {S : Nat → Bool} {kv : Value} : NA w P 1 l a → KidsAt w P kv l → NA w P 0 [nodeC 1 S kv] a
 | row {l : List (List Value)} {a : Re} {S : Nat → Bool} {kv : Value} : NA w P 2 l a → KidsAt w P kv l → NA w P 0 [nodeC 2 S kv] a
 | star {x : List Value} {a : Re} {S : Nat → Bool} {kv : Value} : NA w P 0 [x] a → KidsAt w P kv [x] → NA w P 0 [nodeC 3 S kv] (.star a)
 | plus {x : List Value} {a : Re} {S : Nat → Bool} {kv : Value} : NA w P 0 [x] a → KidsAt w P kv [x] → NA w P 0 [nodeC 4 S kv] (.plus a)
 | opt {x : List Value} {a : Re} {S : Nat → Bool} {kv : Value} : NA w P 0 [x] a → KidsAt w P kv [x] → NA w P 0 [nodeC 5 S kv] (.opt a)
 | a0 : NA w P 1 [] .no
 | a1 {l : List (List Value)} {x : List Value} {a b : Re} : NA w P 1 l a → NA w P 0 [x] b → NA w P 1 (l ++ [x]) (.alt a b)
 | r0 : NA w P 2 [] .eps
 | r1 {l : List (List Value)} {x : List Value} {a b : Re} : NA w P 2 l a → NA w P 0 [x] b → NA w P 2 (l ++ [x]) (.cat a b)
theorem rd_keepB {w w' : World} {v : Value} {n k : Nat} {xs : List Value} (h : RdAt w v n k xs) (hs : w.heap.size ≤ w'.heap.size) (hk : ∀ q, v.ownBlock = some q → q < w.heap.size → w'.heap[q]? = w.heap[q]?) : RdAt w' v n k xs := by
 refine ⟨h.1, ?_⟩
 rcases h.2 with h1 | ⟨a, c, rfl, hc, hr⟩
 ·exact .inl h1
 ·refine .inr ⟨a, c, rfl, hc, fun hn => ?_⟩
  obtain ⟨b, o, rfl, hlt, hcell⟩ := hr hn
  exact ⟨b, o, rfl, Nat.lt_of_lt_of_le hlt hs, fun j x hx => (World.cell?_of_block (a := ⟨b, o + j, none⟩) (hk b rfl hlt)).trans (hcell j x hx)⟩
theorem KidsAt.keep {w w' : World} {P : Nat → Prop} {kv : Value} {l : List (List Value)} (h : KidsAt w P kv l) (hs : w.heap.size ≤ w'.heap.size) (hk : ∀ q, P q → q < w.heap.size → w'.heap[q]? = w.heap[q]?) : KidsAt w' P kv l :=
 ⟨rd_keepB h.row hs fun q hq hlt => hk q (h.own q hq) hlt, h.each, h.own, h.few⟩
theorem NA.keep {w w' : World} {P : Nat → Prop} {i : Nat} {l : List (List Value)} {a : Re} (h : NA w P i l a) (hs : w.heap.size ≤ w'.heap.size) (hk : ∀ q, P q → q < w.heap.size → w'.heap[q]? = w.heap[q]?) : NA w' P i l a := by
 induction h with
 | set S kv => exact .set S kv
 | alts _ h2 ih => exact .alts ih (h2.keep hs hk)
 | row _ h2 ih => exact .row ih (h2.keep hs hk)
 | star _ h2 ih => exact .star ih (h2.keep hs hk)
 | plus _ h2 ih => exact .plus ih (h2.keep hs hk)
 | opt _ h2 ih => exact .opt ih (h2.keep hs hk)
 | a0 => exact .a0
 | a1 _ _ ih1 ih2 => exact .a1 ih1 ih2
 | r0 => exact .r0
 | r1 _ _ ih1 ih2 => exact .r1 ih1 ih2
theorem KidsAt.mono {w : World} {P Q : Nat → Prop} {kv : Value} {l : List (List Value)} (h : KidsAt w P kv l) (hq : ∀ q, P q → Q q) : KidsAt w Q kv l := ⟨h.row, h.each, fun q hh => hq q (h.own q hh), h.few⟩
theorem NA.mono {w : World} {P Q : Nat → Prop} {i : Nat} {l : List (List Value)} {a : Re} (h : NA w P i l a) (hq : ∀ q, P q → Q q) : NA w Q i l a := by
 induction h with
 | set S kv => exact .set S kv
 | alts _ h2 ih => exact .alts ih (h2.mono hq)
 | row _ h2 ih => exact .row ih (h2.mono hq)
 | star _ h2 ih => exact .star ih (h2.mono hq)
 | plus _ h2 ih => exact .plus ih (h2.mono hq)
 | opt _ h2 ih => exact .opt ih (h2.mono hq)
 | a0 => exact .a0
 | a1 _ _ ih1 ih2 => exact .a1 ih1 ih2
 | r0 => exact .r0
 | r1 _ _ ih1 ih2 => exact .r1 ih1 ih2
theorem NA.later {w w' : World} {P : Nat → Prop} {i : Nat} {l : List (List Value)} {a : Re} (h : NA w P i l a) (hb : Below w.heap.size w w') : NA w' P i l a := h.keep hb.size fun q _ hq => hb.block q hq
theorem NA.len {w : World} {P : Nat → Prop} {x : List Value} {a : Re} (h : NA w P 0 [x] a) : ∃ k S kv, x = nodeC k S kv := by
 generalize hi : 0 = i at h
 generalize hl : [x] = l at h
 cases h <;> first | (cases hl; exact ⟨_, _, _, rfl⟩) | cases hi
end Go.Proofs.YtgbapkechngnmaaGreat
/- The reference's reader: next, fail, sign: contracts. -/
namespace Go.Proofs.YtgbapkechngnmaaGreat
open Go.RowKit
theorem rpeek_of {s : ByteArray} {b : Bs} (he : b.err = 0) (hp : b.pos < s.size) : peekM s b = some (byteM s b.pos) := by unfold peekM; rw [if_pos ⟨he, hp⟩]
theorem rbyte_at (s : ByteArray) (k : Nat) (h : k < s.size) : ((s[k]'h).toNat : Int) = (byteM s k : Int) := by unfold byteM; rw [dif_pos h]
theorem rsign_none {s : ByteArray} {b : Bs} (h : peekM s b = none) : signM s b = (failM (stepM b) 2, 0) := by unfold signM; rw [h]
theorem rsign_plain {s : ByteArray} {b : Bs} {c : Nat} (h : peekM s b = some c) (hc : c ≠ 92) : signM s b = (stepM b, c) := by unfold signM; rw [h]; simp [hc]
theorem rsign_end {s : ByteArray} {b : Bs} (h : peekM s b = some 92) (h' : peekM s (stepM b) = none) : signM s b = (failM (stepM (stepM b)) 2, 0) := by unfold signM; rw [h]; simp [h']
theorem rsign_esc {s : ByteArray} {b : Bs} {d : Nat} (h : peekM s b = some 92) (h' : peekM s (stepM b) = some d) : signM s b = (stepM (stepM b), d) := by unfold signM; rw [h]; simp [h']
structure RdrAt (w : World) (g : Nat) (s : ByteArray) (b : Bs) : Prop where
 c0 : w.cell? ⟨g, 0, none⟩ = some (.string s)
 c1 : w.cell? ⟨g, 1, none⟩ = some (.int .i64 b.pos)
 c2 : w.cell? ⟨g, 2, none⟩ = some (.int .i64 b.err)
 th : w.there g 0 3
 lt : g < w.heap.size
theorem RdrAt.below {w w' : World} {g : Nat} {s : ByteArray} {b : Bs} (h : RdrAt w g s b) (hb : Below w.heap.size w w') : RdrAt w' g s b :=
 ⟨keep_cell h.c0 hb h.lt, keep_cell h.c1 hb h.lt, keep_cell h.c2 hb h.lt, there_later h.th hb h.lt, Nat.lt_of_lt_of_le h.lt hb.size⟩
theorem rfar {w : World} {p i b j : Nat} {v : Value} (h : ¬(p = b ∧ i = j)) : (w.setCell ⟨p, i, none⟩ v).cell? ⟨b, j, none⟩ = w.cell? ⟨b, j, none⟩ := by
 apply World.cell?_setCell_other
 intro e
 simp only [Addr.mk.injEq] at e
 exact h ⟨e.1, e.2.1⟩
theorem rthere_set {w : World} {g o n : Nat} (h : w.there g o n) (p i : Nat) (v : Value) : (w.setCell ⟨p, i, none⟩ v).there g o n := World.there_setCells h p i [v]
theorem RdrAt.setPos {w : World} {g : Nat} {s : ByteArray} {b : Bs} (h : RdrAt w g s b) (k : Nat) : RdrAt (w.setCell ⟨g, 1, none⟩ (.int .i64 k)) g s { b with pos := k } :=
 ⟨by rw [rfar (by omega)]; exact h.c0, World.cell?_setCell_same _ _ _ h.c1, by rw [rfar (by omega)]; exact h.c2, rthere_set h.th _ _ _, by simpa using h.lt⟩
theorem RdrAt.step {w : World} {g : Nat} {s : ByteArray} {b : Bs} (h : RdrAt w g s b) : RdrAt (w.setCell ⟨g, 1, none⟩ (.int .i64 ((b.pos : Int) + 1))) g s (stepM b) := h.setPos (b.pos + 1)
theorem RdrAt.setErr {w : World} {g : Nat} {s : ByteArray} {b : Bs} (h : RdrAt w g s b) (e : Int) : RdrAt (w.setCell ⟨g, 2, none⟩ (.int .i64 e)) g s { b with err := e } :=
 ⟨by rw [rfar (by omega)]; exact h.c0, by rw [rfar (by omega)]; exact h.c1, World.cell?_setCell_same _ _ _ h.c2, rthere_set h.th _ _ _, by simpa using h.lt⟩
abbrev Kr (g : Nat) (w w' : World) : Prop := Keep (fun k => k = g) w w'
theorem Kr.refl (g : Nat) (w : World) : Kr g w w := Keep.refl _ w
theorem Kr.trans {g : Nat} {a b c : World} (h : Kr g a b) (h' : Kr g b c) : Kr g a c := Keep.trans h h' (fun _ hk => .inl hk)
theorem Kr.of_below {g : Nat} {w w' : World} (h : Below w.heap.size w w') : Kr g w w' := Keep.of_below h
theorem Kr.set (g : Nat) (w : World) (i : Nat) (v : Value) : Kr g w (w.setCell ⟨g, i, none⟩ v) := Keep.setCell (Keep.refl (fun k => k = g) w) (p := ⟨g, i, none⟩) rfl v
theorem Kr.cell {g : Nat} {w w' : World} (h : Kr g w w') {b o : Nat} {v : Value} (hv : w.cell? ⟨b, o, none⟩ = some v) (h1 : b ≠ g) : w'.cell? ⟨b, o, none⟩ = some v :=
 (World.cell?_of_block (a := ⟨b, o, none⟩) (h.block b (World.block_lt_of_cell? w _ hv) h1)).trans hv
set_option maxHeartbeats 1600000 in
set_option maxRecDepth 100000 in
theorem next_is (w : World) (g : Nat) (s : ByteArray) (b : Bs) (o : Option Nat) (ho : peekM s b = o) (h : RdrAt w g s b) (hp : b.pos ≤ 2000000) :
  Calls Tryz.prog 90 #[.pointer (some ⟨g, 0, none⟩)] w fun e w' => e = .returned (.tuple #[.int .u8 ((o.getD 0 : Nat) : Int), .bool o.isSome]) ∧ Below w.heap.size w w' := by
 obtain ⟨c0, c1, c2, _, _⟩ := h
 obtain ⟨pos, err, sts⟩ := b
 dsimp only at c1 c2 hp
 by_cases he : err = 0
 ·subst he
  by_cases hps : pos < s.size
  ·have hb : peekM s ⟨pos, 0, sts⟩ = some (byteM s pos) := rpeek_of rfl hps
   rw [hb] at ho
   subst ho
   have hn : decide ((pos : Int) < (s.size : Int)) = true := by simpa using hps
   have hn2 : decide ((s.size : Int) ≤ (pos : Int)) = false := by simpa using hps
   have hn3 : decide (s.size ≤ pos) = false := by simpa using hps
   have hi : (0 : Int) ≤ (pos : Int) := by omega
   have hi2 : (pos : Int) < (s.size : Int) := by omega
   have HB := rbyte_at s pos hps
   have HB' := Lib.hid HB
   clear hb HB
   go_enter Tryz.func90, Tryz.ntmps90
   go_wp2
   go_quiet (fail)
   go_wp2
   go_quiet (fail)
   go_wp2
   go_ret2
   refine ⟨?_, ?_⟩
   ·simp only [Option.getD_some, Option.isSome_some]
    rw [← HB'.out]
    rfl
   ·exact bl_drewN (bl_drewN (Below.refl _ _) _) _
  ·have hb : peekM s ⟨pos, 0, sts⟩ = none := by unfold peekM; rw [if_neg (fun h => hps h.2)]
   rw [hb] at ho
   subst ho
   have hn : decide ((pos : Int) < (s.size : Int)) = false := by simpa using hps
   have hn2 : decide ((s.size : Int) ≤ (pos : Int)) = true := by simp; omega
   have hn3 : decide (s.size ≤ pos) = true := by simp; omega
   clear hb
   go_enter Tryz.func90, Tryz.ntmps90
   go_wp2
   go_quiet (fail)
   go_wp2
   go_ret2
   exact ⟨rfl, bl_drewN (Below.refl _ _) _⟩
 ·have hb : peekM s ⟨pos, err, sts⟩ = none := by unfold peekM; rw [if_neg (fun h => he h.1)]
  rw [hb] at ho
  subst ho
  have hd : (err != 0) = true := by simpa using he
  have hd2 : (err == 0) = false := by simpa using he
  clear hb
  go_enter Tryz.func90, Tryz.ntmps90
  go_wp2
  go_quiet (fail)
  go_wp2
  go_ret2
  exact ⟨rfl, bl_drewN (Below.refl _ _) _⟩
set_option maxHeartbeats 800000 in
set_option maxRecDepth 100000 in
theorem rfail_is (w : World) (g : Nat) (s : ByteArray) (b : Bs) (e0 : Int) (h : RdrAt w g s b) :
  Calls Tryz.prog 69 #[.pointer (some ⟨g, 0, none⟩), .int .i64 e0] w fun e w' => e = .returned (.tuple #[]) ∧ RdrAt w' g s (failM b e0) ∧ Kr g w w' := by
 have h' := h
 obtain ⟨c0, c1, c2, th, _⟩ := h
 have f2 := there_free th 2 (by omega)
 obtain ⟨pos, err, sts⟩ := b
 dsimp only at c1 c2
 clear th
 by_cases he : err = 0
 ·subst he
  have HN := Lib.hid (h'.setErr e0)
  have HF : Hid (failM ⟨pos, 0, sts⟩ e0 = ⟨pos, e0, sts⟩) := Lib.hid rfl
  clear h'
  go_enter Tryz.func69, Tryz.ntmps69
  go_wp2
  go_end0
  refine ⟨rfl, ?_, Kr.set g _ _ _⟩
  rw [HF.out]
  exact HN.out
 ·have hd2 : (err == 0) = false := by simpa using he
  have HF : Hid (failM ⟨pos, err, sts⟩ e0 = ⟨pos, err, sts⟩) := Lib.hid (by unfold failM; rw [if_neg he])
  have HN := Lib.hid h'
  clear h'
  go_enter Tryz.func69, Tryz.ntmps69
  go_wp2
  go_end0
  refine ⟨rfl, ?_, Kr.refl _ _⟩
  rw [HF.out]
  exact HN.out
set_option maxHeartbeats 1600000 in
set_option maxRecDepth 100000 in
theorem rsign_is (w : World) (g : Nat) (s : ByteArray) (b : Bs) (h : RdrAt w g s b) (hp : b.pos ≤ 1000000) :
  Calls Tryz.prog 154 #[.pointer (some ⟨g, 0, none⟩)] w fun e w' => e = .returned (.int .u8 ((signM s b).2 : Nat)) ∧ RdrAt w' g s (signM s b).1 ∧ Kr g w w' := by
 obtain ⟨o, ho⟩ : ∃ o, peekM s b = o := ⟨_, rfl⟩
 have k1 := next_is w g s b o ho h (by omega)
 have HO := Lib.hid ho
 have HB := Lib.hid h
 clear ho h
 go_enter Tryz.func154, Tryz.ntmps154
 go_wp2_with fail
 refine k1.mono ?_
 rintro e w1 ⟨rfl, hb1⟩
 have HB1 := Lib.hid (HB.out.below hb1)
 have HS1 := Lib.hid (Kr.of_below (g := g) hb1)
 have c1 := HB1.out.c1
 have f1 := there_free HB1.out.th 1 (by omega)
 clear k1 hb1
 go_upto_region 3 with fail
 change Code.wp _ _ _ _ (w1.setCell ⟨g, 1, none⟩ (.int .i64 ((b.pos : Int) + 1)))
 have HB2 := Lib.hid HB1.out.step
 have HS2 := Lib.hid (HS1.out.trans (Kr.set g w1 1 (.int .i64 ((b.pos : Int) + 1))))
 clear c1 f1 HB1 HS1 HB
 generalize w1.setCell ⟨g, 1, none⟩ (.int .i64 ((b.pos : Int) + 1)) = w2 at *
 have kf := fun W b (h : RdrAt W g s b) => rfail_is W g s b 2 h
 have KF := Lib.hid kf
 clear kf
 cases o
 ·have k2 := KF.out _ _ HB2.out
  go_wp2_with fail
  refine k2.mono ?_
  rintro e w3 ⟨rfl, hB3, hs3⟩
  have HB3 := Lib.hid hB3
  have HS3 := Lib.hid (HS2.out.trans hs3)
  clear k2 hB3 hs3
  go_wp2
  go_ret
  rw [rsign_none HO.out]
  exact ⟨rfl, HB3.out, HS3.out⟩
 ·rename_i c
  by_cases hc : c = 92
  ·subst hc
   obtain ⟨o, ho⟩ : ∃ o, peekM s (stepM b) = o := ⟨_, rfl⟩
   have k2 := next_is w2 g s (stepM b) o ho HB2.out (by simp only [stepM]; omega)
   have HO2 := Lib.hid ho
   clear ho
   go_wp2_with fail
   refine k2.mono ?_
   rintro e w3 ⟨rfl, hb3⟩
   have HB3 := Lib.hid (HB2.out.below hb3)
   have HS3 := Lib.hid (HS2.out.trans (Kr.of_below (g := g) hb3))
   have c1 := HB3.out.c1
   have f1 := there_free HB3.out.th 1 (by omega)
   have hps : (stepM b).pos ≤ 1000001 := by simp only [stepM]; omega
   clear k2 hb3 HB2 HS2
   go_upto_region 6 with fail
   change Code.wp _ _ _ _ (w3.setCell ⟨g, 1, none⟩ (.int .i64 (((stepM b).pos : Int) + 1)))
   have HB4 := Lib.hid HB3.out.step
   have HS4 := Lib.hid (HS3.out.trans (Kr.set g w3 1 (.int .i64 (((stepM b).pos : Int) + 1))))
   clear c1 f1 HB3 HS3
   generalize w3.setCell ⟨g, 1, none⟩ (.int .i64 (((stepM b).pos : Int) + 1)) = w4 at *
   cases o
   ·have k2 := KF.out _ _ HB4.out
    go_wp2_with fail
    refine k2.mono ?_
    rintro e w5 ⟨rfl, hB5, hs5⟩
    have HB5 := Lib.hid hB5
    have HS5 := Lib.hid (HS4.out.trans hs5)
    clear k2 hB5 hs5
    go_wp2
    go_ret
    rw [rsign_end HO.out HO2.out]
    exact ⟨rfl, HB5.out, HS5.out⟩
   ·rename_i d
    go_wp2
    go_ret
    rw [rsign_esc HO.out HO2.out]
    exact ⟨rfl, HB4.out, HS4.out⟩
  ·have hcb : ((c : Int) == 92) = false := by rw [beq_eq_false_iff_ne]; omega
   have HC := Lib.hid hc
   clear hc
   go_wp2
   go_ret
   rw [rsign_plain HO.out HC.out]
   exact ⟨rfl, HB2.out, HS2.out⟩
end Go.Proofs.YtgbapkechngnmaaGreat
/- The reference's tree: operations on a whole node (258 cells), one law each. -/
namespace Go.Proofs.YtgbapkechngnmaaGreat
open Go.RowKit
def noB : Nat → Bool := fun _ => false
def zeroN (k : Int) : Array Value := (nodeC k noB (.slice none 0 0)).toArray
theorem zeroN_size (k : Int) : (zeroN k).size = 258 := by unfold zeroN; rw [List.size_toArray, nodeC_len]
theorem zeroN_list (k : Int) : (zeroN k).toList = nodeC k noB (.slice none 0 0) := by unfold zeroN; simp
set_option maxRecDepth 100000 in
theorem node_zero : (Tryz.prog.info? 62).map (fun i => (i.zero, i.size, i.bytes)) = some (some (.agg (zeroN 0)), 258, 288) := by kernel_rfl
theorem node_size : (Tryz.prog.info? 62).map (·.size) = some 258 := by
 have h := node_zero
 cases hq : Tryz.prog.info? 62 with
 | none => rw [hq] at h; cases h
 | some i =>
  rw [hq] at h
  simp only [Option.map_some, Option.some.injEq, Prod.mk.injEq] at h ⊢
  exact h.2.1
set_option maxRecDepth 100000 in
theorem node_built0 : Tryz.prog.built 62 [] = some (zeroN 0) := by kernel_rfl
set_option maxRecDepth 100000 in
theorem node_built1 : Tryz.prog.built 62 [(0, .int .i64 1)] = some (zeroN 1) := by kernel_rfl
set_option maxRecDepth 100000 in
theorem node_built2 : Tryz.prog.built 62 [(0, .int .i64 2)] = some (zeroN 2) := by kernel_rfl
set_option maxRecDepth 100000 in
theorem node_built3 (k : Int) (a : Option Addr) (n c : Nat) : Tryz.prog.built 62 [(0, .int .i64 k), (2, .slice a n c)] = some (nodeC k noB (.slice a n c)).toArray := by kernel_rfl
theorem node_run_zero (w : World) : (zeroValue 62).run Tryz.prog w = .ok (.agg (zeroN 0)) w := by
 have h := node_zero
 cases hq : Tryz.prog.info? 62 with
 | none => rw [hq] at h; cases h
 | some i =>
  rw [hq] at h
  simp only [Option.map_some, Option.some.injEq, Prod.mk.injEq] at h
  simp [zeroValue, typeInfo, hq, h.1]
section
variable {ops : Array Oper} {rest : List Oper} {o : Oper} {a : Act} {w : World} {Q : Exit → Act → World → Prop}
theorem wpList_allocN (hg : o.guard = none) (ho : o.op = .alloc 62) (dst : Option Tmp) (hdst : o.dst = dst) (N : Nat) (hN : w.heap.size = N)
  (h : wpList Tryz.prog ops Q rest (a.put dst (.pointer (some ⟨N, 0, none⟩))) (w.alloc (.cells (zeroN 0) 62))) : wpList Tryz.prog ops Q (o :: rest) a w := by
 subst hdst hN
 refine wpList_plain hg fun K hK => ?_
 unfold Oper.wp execOp
 simp only [ho, Sem.run_bind, Instr.alloc, newVar, newRow, node_run_zero, run_newObj_alloc, Sem.run_pure, Result.andThen_ok, Value.cells]
 exact hK _ _ h
theorem wpList_buildN (hg : o.guard = none) (parts : Array (Nat × Operand)) (ho : o.op = .build 62 parts) (dst : Option Tmp) (hdst : o.dst = dst) (cells : Array Value)
  (hf : Tryz.prog.built 62 (parts.map fun (i, x) => (i, a.eval x)).toList = some cells)
  (h : wpList Tryz.prog ops Q rest (a.put dst (.agg cells)) w) : wpList Tryz.prog ops Q (o :: rest) a w := by
 subst hdst
 refine wpList_build hg 62 parts ho (by rw [hf]; rfl) ?_
 rw [hf]
 exact h
theorem wpList_loadN (hg : o.guard = none) (x : Operand) (ho : o.op = .load 62 x) (dst : Option Tmp) (hdst : o.dst = dst) (b i : Nat) (hx : a.eval x = .pointer (some ⟨b, i, none⟩)) (cs : List Value) (hc : w.rangeAt b i cs) (hl : cs.length = 258)
  (h : wpList Tryz.prog ops Q rest (a.put dst (.agg cs.toArray)) w) : wpList Tryz.prog ops Q (o :: rest) a w := by
 subst hdst
 exact wpList_load_mid hg 62 x ho b i hx cs _ hc Tryz.underlying62 rfl (by rw [hl]; exact node_size) h
theorem wpList_storeN (hg : o.guard = none) (x y : Operand) (ho : o.op = .store 62 x y) (dst : Option Tmp) (hdst : o.dst = dst) (b i : Nat) (cs : List Value) (hx : a.eval x = .pointer (some ⟨b, i, none⟩)) (hy : a.eval y = .agg cs.toArray)
  (ht : w.there b i 258) (hl : cs.length = 258) (h1 : ∀ y ∈ cs, y.oneCell' = true)
  (h : wpList Tryz.prog ops Q rest (a.put dst undef) (w.setCells b i cs)) : wpList Tryz.prog ops Q (o :: rest) a w := by
 subst hdst
 refine wpList_store_mid hg 62 x y ho b i cs.toArray hx hy (by simpa [hl] using ht) (by simpa [hl] using node_size) (all_oneCell_toArray h1) ?_
 simpa using h
end
structure NdAt (w : World) (p : Nat) (cs : List Value) : Prop where
 at_ : w.rangeAt p 0 cs
 th : w.there p 0 258
 len : cs.length = 258
 lt : p < w.heap.size
theorem NdAt.keep {w w' : World} {p : Nat} {cs : List Value} (h : NdAt w p cs) (hs : w.heap.size ≤ w'.heap.size) (hk : w'.heap[p]? = w.heap[p]?) : NdAt w' p cs :=
 ⟨fun j v hv => (World.cell?_of_block (a := ⟨p, 0 + j, none⟩) hk).trans (h.at_ j v hv), fun j hj => by
  obtain ⟨h1, h2⟩ := h.th j hj
  exact ⟨by rw [World.cell?_of_block (a := ⟨p, 0 + j, none⟩) hk]; exact h1, by rw [World.frozen?_of_block (a := ⟨p, 0 + j, none⟩) hk]; exact h2⟩, h.len, Nat.lt_of_lt_of_le h.lt hs⟩
theorem NdAt.later {w w' : World} {p : Nat} {cs : List Value} (h : NdAt w p cs) (hb : Below w.heap.size w w') : NdAt w' p cs := h.keep hb.size (hb.block p h.lt)
theorem NdAt.kr {w w' : World} {g p : Nat} {cs : List Value} (h : NdAt w p cs) (hk : Kr g w w') (hne : p ≠ g) : NdAt w' p cs := h.keep hk.size (hk.block p h.lt hne)
theorem NdAt.cell {w : World} {p : Nat} {cs : List Value} (h : NdAt w p cs) {j : Nat} {v : Value} (hv : cs[j]? = some v) : w.cell? ⟨p, j, none⟩ = some v := by
 have := h.at_ j v hv
 rwa [Nat.zero_add] at this
theorem NdAt.free {w : World} {p : Nat} {cs : List Value} (h : NdAt w p cs) {j : Nat} (hj : j < 258) : w.frozen? ⟨p, j, none⟩ = false := by
 have := (h.th j hj).2
 rwa [Nat.zero_add] at this
theorem there_new (w : World) (k : Int) (t : TypeId) : (w.alloc (.cells (zeroN k) t)).there w.heap.size 0 258 := by
 have h := box_there (xs := zeroN k) (t := t) (Below.refl _ (w.alloc (.cells (zeroN k) t)))
 rwa [zeroN_size] at h
theorem NdAt.new (w : World) (k : Int) (t : TypeId) : NdAt (w.alloc (.cells (zeroN k) t)) w.heap.size (nodeC k noB (.slice none 0 0)) :=
 ⟨fun j v hv => by
  rw [Nat.zero_add]
  refine (box_cells (Below.refl _ (w.alloc (.cells (zeroN k) t)))).1 j v ?_
  rw [← Array.getElem?_toList, zeroN_list]
  exact hv, there_new w k t, nodeC_len _ _ _, by rw [World.size_alloc]; omega⟩
theorem size_setCells (w : World) (g o : Nat) (vs : List Value) : (w.setCells g o vs).heap.size = w.heap.size := by
 induction vs generalizing w o with
 | nil => rfl
 | cons v r ih => rw [World.setCells, ih]; simp
theorem NdAt.stored {w : World} {p : Nat} {old cs : List Value} (h : NdAt w p old) (hl : cs.length = 258) : NdAt (w.setCells p 0 cs) p cs :=
 ⟨World.rangeAt_setCells_same w p 0 cs (by rw [hl]; exact h.th), World.there_setCells h.th p 0 cs, hl, by rw [size_setCells]; exact h.lt⟩
theorem NdAt.set {w : World} {p : Nat} {cs : List Value} (h : NdAt w p cs) (j : Nat) (v : Value) (hj : j < 258) : NdAt (w.setCell ⟨p, j, none⟩ v) p (cs.set j v) :=
 ⟨fun i u hu => by
  rw [Nat.zero_add]
  rw [List.getElem?_set] at hu
  split at hu
  ·rename_i e
   subst e
   split at hu
   ·rw [← Option.some.inj hu]
    exact World.cell?_setCell_same _ _ _ (h.cell (List.getElem?_eq_getElem (by rw [h.len]; exact hj)))
   ·cases hu
  ·rename_i e
   rw [rfar (by omega)]
   exact h.cell hu, rthere_set h.th _ _ _, by simpa using h.len, by simpa using h.lt⟩
theorem nodeC_setK (k : Int) (S : Nat → Bool) (kv kv' : Value) : (nodeC k S kv).set 257 kv' = nodeC k S kv' := by
 unfold nodeC
 rw [show (257 : Nat) = 256 + 1 by rfl, List.set_cons_succ, List.set_append_right _ _ (by rw [boolC_len]; exact Nat.le_refl _), boolC_len]
 rfl
theorem nodeC_setB (k : Int) (S : Nat → Bool) (kv : Value) (c : Nat) (hc : c < 256) (v : Bool) : (nodeC k S kv).set (1 + c) (.bool v) = nodeC k (fun x => if x = c then v else S x) kv := by
 unfold nodeC
 rw [Nat.add_comm, List.set_cons_succ, List.set_append_left _ _ (by rw [boolC_len]; exact hc)]
 congr 2
 unfold boolC
 apply List.ext_getElem?
 intro i
 rw [List.getElem?_set]
 by_cases hi : i < 256
 ·simp only [List.getElem?_map, List.getElem?_range hi, List.length_map, List.length_range, Option.map_some]
  by_cases e : c = i
  ·subst e
   simp [hi]
  ·simp [e, Ne.symm e]
 ·have h1 : ((List.range 256).map fun c => Value.bool (S c))[i]? = none := List.getElem?_eq_none (by simp; omega)
  have h2 : ((List.range 256).map fun x => Value.bool (if x = c then v else S x))[i]? = none := List.getElem?_eq_none (by simp; omega)
  rw [h1, h2, if_neg (by omega)]
end Go.Proofs.YtgbapkechngnmaaGreat
/- The reference's reader under way: what its functions carry. -/
namespace Go.Proofs.YtgbapkechngnmaaGreat
open Go.RowKit
abbrev nilS : Value := .slice none 0 0
theorem Kr.new {g : Nat} {w0 w : World} (h : Kr g w0 w) (p i : Nat) (v : Value) (hp : w0.heap.size ≤ p) : Kr g w0 (w.setCell ⟨p, i, none⟩ v) :=
 ⟨h.os, h.tape, h.output, by rw [World.size_setCell]; exact h.size, fun k hk hn => by rw [Below.heap_setCell w ⟨p, i, none⟩ v k (by show k ≠ p; omega)]; exact h.block k hk hn⟩
theorem Kr.news {g : Nat} {w0 w : World} (h : Kr g w0 w) (p : Nat) (hp : w0.heap.size ≤ p) : ∀ (vs : List Value) (o : Nat), Kr g w0 (w.setCells p o vs) := by
 intro vs
 induction vs generalizing w with
 | nil => intro o; exact h
 | cons v r ih => intro o; exact ih (h.new p o v hp) (o + 1)
theorem RdrAt.kept {w w' : World} {g : Nat} {s : ByteArray} {b : Bs} (h : RdrAt w g s b) (hs : w.heap.size ≤ w'.heap.size) (hk : w'.heap[g]? = w.heap[g]?) : RdrAt w' g s b :=
 ⟨(World.cell?_of_block (a := ⟨g, 0, none⟩) hk).trans h.c0, (World.cell?_of_block (a := ⟨g, 1, none⟩) hk).trans h.c1, (World.cell?_of_block (a := ⟨g, 2, none⟩) hk).trans h.c2,
  fun j hj => by
   obtain ⟨h1, h2⟩ := h.th j hj
   exact ⟨by rw [World.cell?_of_block (a := ⟨g, 0 + j, none⟩) hk]; exact h1, by rw [World.frozen?_of_block (a := ⟨g, 0 + j, none⟩) hk]; exact h2⟩, Nat.lt_of_lt_of_le h.lt hs⟩
theorem there_kept {w w' : World} {p n : Nat} (h : w.there p 0 n) (hk : w'.heap[p]? = w.heap[p]?) : w'.there p 0 n := fun j hj => by
 obtain ⟨h1, h2⟩ := h j hj
 exact ⟨by rw [World.cell?_of_block (a := ⟨p, 0 + j, none⟩) hk]; exact h1, by rw [World.frozen?_of_block (a := ⟨p, 0 + j, none⟩) hk]; exact h2⟩
theorem heap_setCells (w : World) (p k : Nat) (hk : k ≠ p) : ∀ (vs : List Value) (o : Nat), (w.setCells p o vs).heap[k]? = w.heap[k]? := by
 intro vs
 induction vs generalizing w with
 | nil => intro o; rfl
 | cons v r ih => intro o; exact (ih (w.setCell ⟨p, o, none⟩ v) (o + 1)).trans (Below.heap_setCell w ⟨p, o, none⟩ v k hk)
def rposAt (w : World) (g : Nat) : Nat := match w.cell? ⟨g, 1, none⟩ with
 | some (.int _ n) => n.toNat
 | _ => 0
theorem RdrAt.posAt {w : World} {g : Nat} {s : ByteArray} {b : Bs} (h : RdrAt w g s b) : rposAt w g = b.pos := by
 unfold rposAt
 rw [h.c1]
 simp
structure Clr (w0 w : World) (g : Nat) (s : ByteArray) (b : Bs) (cs : List Value) : Prop where
 rdr : RdrAt w g s b
 nd : NdAt w (w0.heap.size + 1) cs
 res : w.there w0.heap.size 0 258
 kr : Kr g w0 w
 gl : g < w0.heap.size
theorem Clr.new {w : World} {g : Nat} {s : ByteArray} {b : Bs} (h : RdrAt w g s b) (k : Int) (t : TypeId) : Clr w (((w.alloc (.cells (zeroN 0) t)).alloc (.cells (zeroN 0) t)).setCells (w.heap.size + 1) 0 (nodeC k noB nilS)) g s b (nodeC k noB nilS) := by
 have b1 : Below w.heap.size w (w.alloc (.cells (zeroN 0) t)) := alloc_below _ _
 have b2 : Below w.heap.size w ((w.alloc (.cells (zeroN 0) t)).alloc (.cells (zeroN 0) t)) := b1.trans ((alloc_below _ _).mono b1.size)
 have n2 := NdAt.new (w.alloc (.cells (zeroN 0) t)) 0 t
 have r2 := there_later (there_new w 0 t) (alloc_below (w.alloc (.cells (zeroN 0) t)) (.cells (zeroN 0) t)) (by rw [World.size_alloc]; omega)
 rw [World.size_alloc] at n2
 refine ⟨(h.below b2).kept (by rw [size_setCells]; exact Nat.le_refl _) (heap_setCells _ _ _ (by have := h.lt; omega) _ _), n2.stored (nodeC_len _ _ _), there_kept r2 (heap_setCells _ _ _ (by omega) _ _), (Kr.of_below b2).news _ (by omega) _ _, h.lt⟩
theorem Clr.below {w0 w w' : World} {g : Nat} {s : ByteArray} {b : Bs} {cs : List Value} (h : Clr w0 w g s b cs) (hb : Below w.heap.size w w') : Clr w0 w' g s b cs :=
 ⟨h.rdr.below hb, h.nd.later hb, there_later h.res hb (by have := h.nd.lt; omega), h.kr.trans (Kr.of_below hb), h.gl⟩
theorem Clr.stp {w0 w w' : World} {g : Nat} {s : ByteArray} {b b' : Bs} {cs : List Value} (h : Clr w0 w g s b cs) (hr : RdrAt w' g s b') (hk : Kr g w w') : Clr w0 w' g s b' cs :=
 ⟨hr, h.nd.kr hk (by have := h.gl; omega), there_kept h.res (hk.block _ (by have := h.nd.lt; omega) (by have := h.gl; omega)), h.kr.trans hk, h.gl⟩
theorem Clr.step {w0 w : World} {g : Nat} {s : ByteArray} {b : Bs} {cs : List Value} (h : Clr w0 w g s b cs) : Clr w0 (w.setCell ⟨g, 1, none⟩ (.int .i64 ((b.pos : Int) + 1))) g s (stepM b) cs :=
 h.stp h.rdr.step (Kr.set g w 1 _)
theorem Clr.put {w0 w : World} {g : Nat} {s : ByteArray} {b : Bs} {cs : List Value} (h : Clr w0 w g s b cs) (j : Nat) (v : Value) (hj : j < 258) : Clr w0 (w.setCell ⟨w0.heap.size + 1, j, none⟩ v) g s b (cs.set j v) :=
 ⟨h.rdr.kept (by simp) (Below.heap_setCell w _ v g (by show g ≠ w0.heap.size + 1; have := h.gl; omega)), h.nd.set j v hj, rthere_set h.res _ _ _, h.kr.new _ _ _ (by omega), h.gl⟩
theorem Clr.done {w0 w : World} {g : Nat} {s : ByteArray} {b : Bs} {cs : List Value} (h : Clr w0 w g s b cs) (vs : List Value) : RdrAt (w.setCells w0.heap.size 0 vs) g s b ∧ Kr g w0 (w.setCells w0.heap.size 0 vs) :=
 ⟨h.rdr.kept (by rw [size_setCells]; exact Nat.le_refl _) (heap_setCells _ _ _ (by have := h.gl; omega) _ _), h.kr.news _ (Nat.le_refl _) _ _⟩
theorem oneN (k : Int) (S : Nat → Bool) : ∀ y ∈ nodeC k S nilS, y.oneCell' = true := nodeC_one k S nilS rfl
def addU (S : Nat → Bool) (lo k : Nat) : Nat → Bool := fun c => S c || (decide (lo ≤ c) && decide (c < k))
theorem addU_start (S : Nat → Bool) (lo : Nat) : addU S lo lo = S := by
 funext c
 have : (decide (lo ≤ c) && decide (c < lo)) = false := by
  by_cases h : lo ≤ c
  ·rw [decide_eq_false (show ¬ c < lo by omega), Bool.and_false]
  ·rw [decide_eq_false h, Bool.false_and]
 unfold addU
 rw [this, Bool.or_false]
theorem addU_end {S : Nat → Bool} {lo hi k : Nat} (h1 : hi < k) (h2 : k ≤ hi + 1 ∨ k = lo) : addU S lo k = addS S lo hi := by
 funext c
 unfold addU addS
 congr 1
 by_cases h : lo ≤ c
 ·rw [decide_eq_true h, Bool.true_and, Bool.true_and]
  by_cases h3 : c ≤ hi
  ·rw [decide_eq_true h3, decide_eq_true (by omega)]
  ·rw [decide_eq_false h3, decide_eq_false (by omega)]
 ·rw [decide_eq_false h, Bool.false_and, Bool.false_and]
theorem addU_succ {S : Nat → Bool} {lo k : Nat} (h : lo ≤ k) : (fun x => if x = k then true else addU S lo k x) = addU S lo (k + 1) := by
 funext c
 unfold addU
 by_cases e : c = k
 ·subst e
  rw [if_pos rfl, decide_eq_true h, decide_eq_true (Nat.lt_succ_self c)]
  simp
 ·rw [if_neg e]
  congr 2
  exact decide_eq_decide.2 (by omega)
def turnU (S : Nat → Bool) (k : Nat) : Nat → Bool := fun c => if c < k then !S c else S c
theorem turnU_zero (S : Nat → Bool) : turnU S 0 = S := by funext c; unfold turnU; rw [if_neg (by omega)]
theorem turnU_at (S : Nat → Bool) (k : Nat) : turnU S k k = S k := by unfold turnU; rw [if_neg (by omega)]
theorem turnU_succ (S : Nat → Bool) (k : Nat) : (fun x => if x = k then !S k else turnU S k x) = turnU S (k + 1) := by
 funext c
 unfold turnU
 by_cases e : c = k
 ·subst e
  rw [if_pos rfl, if_pos (by omega)]
 ·rw [if_neg e]
  have : (c < k) = (c < k + 1) := propext (by omega)
  simp only [this]
theorem nodeC_congr {k : Int} {S T : Nat → Bool} (h : ∀ c, c < 256 → S c = T c) (kv : Value) : nodeC k S kv = nodeC k T kv := by
 unfold nodeC boolC
 congr 2
 exact List.map_congr_left (fun c hc => by rw [h c (List.mem_range.1 hc)])
theorem turnU_all (S : Nat → Bool) (k : Int) (kv : Value) : nodeC k (turnU S 256) kv = nodeC k (turnS S) kv :=
 nodeC_congr (fun c hc => by unfold turnU turnS; rw [if_pos hc]) kv
end Go.Proofs.YtgbapkechngnmaaGreat
/- The tree of a pattern; the builder's states fit its texts. No program in sight. -/
namespace Go.Proofs.YtgbapkechngnmaaGreat
def timesR (s : ByteArray) (b : Bs) (a : Re) : Re := match peekM s b with
  | none => a
  | some c => if c = 42 then .star a else if c = 43 then .plus a else if c = 63 then .opt a else a
def reM (s : ByteArray) : Nat → Md → Re → Nat → Bs → Re
  | 0, _, acc, _, _ => acc
  | n + 1, .either, _, d, b => reM s n (.alts (b.sts.length, b.sts.length + 1)) .no d (nodeM (nodeM b))
  | n + 1, .alts p, acc, d, b =>
    let r := runM s n .row d b
    let a := Re.alt acc (reM s n .row .no d b)
    let b2 := freeM (freeM r.1 p.1 r.2.1) r.2.2 p.2
    if peekM s b2 = some 124 then reM s n (.alts p) a d (stepM b2) else a
  | n + 1, .row, _, d, b => reM s n (.parts (b.sts.length, b.sts.length)) .eps d (nodeM b)
  | n + 1, .parts p, acc, d, b =>
    match peekM s b with
    | none => acc
    | some c => if c = 124 ∨ c = 41 then acc else
      let r := runM s n .atom d b
      let t := timesM s r.1 r.2
      reM s n (.parts (p.1, t.2.2)) (.cat acc (timesR s r.1 (reM s n .atom .no d b))) d (freeM t.1 p.2 t.2.1)
  | n + 1, .atom, _, d, b =>
    let c := byteM s b.pos
    let b1 := stepM b
    if c = 40 then
      (if d = 8 then .set noS else reM s n .either .no (d + 1) b1)
    else if c = 91 then .set (classM s b1).2
    else if c = 46 then .set (turnS noS)
    else if c = 92 then
      (match peekM s b1 with
       | none => .set (oneS 0)
       | some e => .set (oneS e))
    else if oddB c = true then .set noS
    else .set (oneS c)
def Und : Md → Re → Bs → Nat → Prop
  | .alts p, acc, b, lo => Frg b.sts lo b.sts.length p.1 p.2 acc ∧ p.1 ≠ p.2
  | .parts p, acc, b, lo => Frg b.sts lo b.sts.length p.1 p.2 acc
  | _, _, b, lo => lo = b.sts.length
structure Made (b : Bs) (lo : Nat) (r : Bs × (Nat × Nat)) (a : Re) : Prop where
  old : ∀ k, k < lo → r.1.sts[k]? = b.sts[k]?
  frg : Frg r.1.sts lo r.1.sts.length r.2.1 r.2.2 a
theorem node_sts (b : Bs) : (nodeM b).sts = b.sts ++ [nd] := rfl
theorem node2_sts (b : Bs) : (nodeM (nodeM b)).sts = b.sts ++ [nd, nd] := by rw [node_sts, node_sts, List.append_assoc]; rfl
theorem one_made (b0 b : Bs) (S : Nat → Bool) (h : b.sts = b0.sts) : Made b0 b0.sts.length (oneM b S) (.set S) := by
  rw [← h]
  refine ⟨fun k hk => ?_, ?_⟩
  · rw [← h]; exact List.getElem?_append_left hk
  · have := frg_set b.sts S
    have hl : (oneM b S).1.sts.length = b.sts.length + 2 := by simp [oneM]
    rw [hl]
    exact this
theorem app2_old {l : List St} {x y : St} {k : Nat} (h : k < l.length) : (l ++ [x, y])[k]? = l[k]? := List.getElem?_append_left h
theorem app2_0 (l : List St) (x y : St) : (l ++ [x, y])[l.length]? = some x := by rw [List.getElem?_append_right (Nat.le_refl _)]; simp
theorem app2_1 (l : List St) (x y : St) : (l ++ [x, y])[l.length + 1]? = some y := by rw [List.getElem?_append_right (by omega)]; simp
theorem times_made {s : ByteArray} {b0 : Bs} {r : Bs × (Nat × Nat)} {a : Re} (h : Made b0 b0.sts.length r a) : Made b0 b0.sts.length (timesM s r.1 r.2) (timesR s r.1 a) := by
  obtain ⟨b, x⟩ := r
  obtain ⟨old, frg⟩ := h
  dsimp only at old frg ⊢
  unfold timesM timesR
  cases hp : peekM s b with
  | none => exact ⟨old, frg⟩
  | some c =>
    dsimp only
    by_cases hpo : postB c = true
    · rw [if_pos hpo]
      have x0 := frg.f0
      have x1 := frg.f1
      have y0 := frg.t0
      have y1 := frg.t1
      have hsx : (stepM b).sts = b.sts := rfl
      -- the states behind the steps
      have key : ∀ (skip again : Bool) (B : Bs), B.sts = (let l1 := addF (addF (b.sts ++ [nd, nd]) b.sts.length x.1) x.2 (b.sts.length + 1)
          let l2 := if skip = true then addF l1 b.sts.length (b.sts.length + 1) else l1
          if again = true then addF l2 x.2 x.1 else l2) →
          Made b0 b0.sts.length (B, (b.sts.length, b.sts.length + 1)) (postR skip again a) := by
        intro skip again B hB
        dsimp only at hB
        have hne : b.sts.length ≠ x.2 := by omega
        have hold : ∀ k, k < b.sts.length → k ≠ x.2 → B.sts[k]? = b.sts[k]? := by
          intro k hk hkx
          rw [hB]
          cases skip <;> cases again <;> simp only [Bool.false_eq_true, if_false, if_true] <;> (repeat rw [addF_ne (by omega)]) <;> exact app2_old hk
        refine ⟨fun k hk => ?_, ?_⟩
        · exact (hold k (by omega) (by omega)).trans (old k hk)
        · have hlen : B.sts.length = b.sts.length + 2 := by
            rw [hB]
            cases skip <;> cases again <;> simp [addF_len]
          rw [hlen]
          refine Frg.post frg skip again hlen hold ?_ ?_ ?_ _ rfl
          · rw [hB]
            have g0 := addF_eq (t := x.1) (app2_0 b.sts nd nd)
            cases skip <;> cases again <;> simp only [Bool.false_eq_true, if_false, if_true]
            · rw [addF_ne hne]; exact g0
            · rw [addF_ne hne, addF_ne hne]; exact g0
            · rw [addF_eq (x := ⟨none, 0, [x.1]⟩) (by rw [addF_ne hne]; exact g0)]
            · rw [addF_ne hne, addF_eq (x := ⟨none, 0, [x.1]⟩) (by rw [addF_ne hne]; exact g0)]
          · rw [hB]
            have g0 : (addF (addF (b.sts ++ [nd, nd]) b.sts.length x.1) x.2 (b.sts.length + 1))[x.2]? = some ⟨none, 0, [b.sts.length + 1]⟩ := by
              rw [addF_eq (x := ⟨none, 0, []⟩) (by rw [addF_ne (Ne.symm hne), app2_old y1]; exact frg.sink)]; rfl
            cases skip <;> cases again <;> simp only [Bool.false_eq_true, if_false, if_true]
            · exact g0
            · rw [addF_eq g0]
            · rw [addF_ne (Ne.symm hne)]; exact g0
            · rw [addF_eq (by rw [addF_ne (Ne.symm hne)]; exact g0)]
          · rw [hB]
            cases skip <;> cases again <;> simp only [Bool.false_eq_true, if_false, if_true] <;> (repeat rw [addF_ne (by omega)]) <;> exact app2_1 _ _ _
      rcases (show c = 42 ∨ c = 43 ∨ c = 63 by simp only [postB, Bool.or_eq_true, decide_eq_true_eq] at hpo; omega) with rfl | rfl | rfl
      · exact key true true _ (by simp [freeM, node2_sts, stepM])
      · exact key false true _ (by simp [freeM, node2_sts, stepM])
      · exact key true false _ (by simp [freeM, node2_sts, stepM])
    · rw [if_neg hpo]
      have : c ≠ 42 ∧ c ≠ 43 ∧ c ≠ 63 := by simp only [postB, Bool.or_eq_true, decide_eq_true_eq] at hpo; omega
      rw [if_neg this.1, if_neg this.2.1, if_neg this.2.2]
      exact ⟨old, frg⟩
theorem reM_made (s : ByteArray) (n : Nat) : ∀ (md : Md) (acc : Re) (d : Nat) (b : Bs) (lo : Nat), d ≤ 8 → b.pos ≤ s.size + 12 - d → (md = .atom → b.pos < s.size) → partOk md b → fuelM s b md ≤ n → Und md acc b lo → Made b lo (runM s n md d b) (reM s n md acc d b) := by
  induction n with
  | zero => intro md acc d b lo _ _ _ _ hn; cases md <;> simp [fuelM] at hn
  | succ n ih =>
    intro md acc d b lo hd hp ha hk hn hu
    cases md with
    | either =>
      simp only [fuelM] at hn
      obtain rfl : lo = b.sts.length := hu
      rw [runM, reM]
      have h := ih (.alts (b.sts.length, b.sts.length + 1)) .no d (nodeM (nodeM b)) b.sts.length hd hp (fun h => by cases h) ⟨by simp [nodeM], by simp [nodeM]⟩ (by simp only [fuelM, nodeM]; omega)
        ⟨by rw [node2_sts]; have := frg_no b.sts; simpa using this, by simp⟩
      exact ⟨fun k hk => by rw [h.old k hk, node2_sts]; exact app2_old hk, h.frg⟩
    | alts p =>
      simp only [fuelM] at hn
      obtain ⟨hp1, hp2⟩ := hk
      obtain ⟨hf, hne⟩ := hu
      have ok := runM_ok s n .row d b hd hp (fun h => by cases h) trivial (by simp only [fuelM]; omega)
      have h1 := ih .row .no d b b.sts.length hd hp (fun h => by cases h) trivial (by simp only [fuelM]; omega) rfl
      obtain ⟨g1, q1, q2, q3, _⟩ := ok
      have e : ∀ b f t, (freeM b f t).sts.length = b.sts.length := fun b f t => by simp [freeM, addF_len]
      have hgl := g1.len
      have hgp := g1.pos
      have hpp : (freeM (freeM (runM s n .row d b).1 p.1 (runM s n .row d b).2.1) (runM s n .row d b).2.2 p.2).pos = (runM s n .row d b).1.pos := rfl
      have hl2 : (freeM (freeM (runM s n .row d b).1 p.1 (runM s n .row d b).2.1) (runM s n .row d b).2.2 p.2).sts.length = (runM s n .row d b).1.sts.length := by rw [e, e]
      have h2 := hf.alt hne h1.old h1.frg
      have hfs : (freeM (freeM (runM s n .row d b).1 p.1 (runM s n .row d b).2.1) (runM s n .row d b).2.2 p.2).sts = addF (addF (runM s n .row d b).1.sts p.1 (runM s n .row d b).2.1) (runM s n .row d b).2.2 p.2 := rfl
      rw [← hfs] at h2
      have hold : ∀ k, k < lo → (freeM (freeM (runM s n .row d b).1 p.1 (runM s n .row d b).2.1) (runM s n .row d b).2.2 p.2).sts[k]? = b.sts[k]? := fun k hk => by
        have a1 := h1.frg.t0
        have a2 := hf.f0
        have a3 := hf.f1
        rw [hfs, addF_ne (by omega), addF_ne (by omega)]
        exact h1.old k (by omega)
      rw [runM, reM]
      generalize (freeM (freeM (runM s n .row d b).1 p.1 (runM s n .row d b).2.1) (runM s n .row d b).2.2 p.2) = b2 at *
      rw [← hl2] at h2
      split
      · rename_i hpk
        have hps := (peekM_some hpk).2.1
        have h3 := ih (.alts p) (.alt acc (reM s n .row .no d b)) d (stepM b2) lo hd (by simp only [stepM]; omega) (fun h => by cases h) ⟨by simp only [stepM]; omega, by simp only [stepM]; omega⟩ (by simp only [fuelM, stepM]; omega) ⟨h2, hne⟩
        exact ⟨fun k hk => (h3.old k hk).trans (hold k hk), h3.frg⟩
      · exact ⟨hold, h2⟩
    | row =>
      simp only [fuelM] at hn
      obtain rfl : lo = b.sts.length := hu
      rw [runM, reM]
      have h := ih (.parts (b.sts.length, b.sts.length)) .eps d (nodeM b) b.sts.length hd hp (fun h => by cases h) ⟨by simp [nodeM], by simp [nodeM]⟩ (by simp only [fuelM, nodeM]; omega)
        (by show Frg _ _ _ _ _ _; rw [node_sts]; have := frg_eps b.sts; simpa using this)
      exact ⟨fun k hk => by rw [h.old k hk, node_sts]; exact List.getElem?_append_left hk, h.frg⟩
    | parts p =>
      simp only [fuelM] at hn
      obtain ⟨hp1, hp2⟩ := hk
      have hf : Frg b.sts lo b.sts.length p.1 p.2 acc := hu
      rw [runM, reM]
      cases hc : peekM s b with
      | none => exact ⟨fun _ _ => rfl, hf⟩
      | some c =>
        dsimp only
        split
        · exact ⟨fun _ _ => rfl, hf⟩
        · have hps := (peekM_some hc).2.1
          have ok := runM_ok s n .atom d b hd hp (fun _ => hps) trivial (by simp only [fuelM]; omega)
          have h1 := ih .atom .no d b b.sts.length hd hp (fun _ => hps) trivial (by simp only [fuelM]; omega) rfl
          obtain ⟨g1, q1, q2, q3, q4⟩ := ok
          obtain ⟨q5, q6⟩ := q4 rfl
          have gt := gd_times s (runM s n .atom d b).1 (runM s n .atom d b).2
          have pt := times_part s (runM s n .atom d b).1 (runM s n .atom d b).2 ⟨q1, q2⟩
          have h2 := times_made (s := s) h1
          have tp : (timesM s (runM s n .atom d b).1 (runM s n .atom d b).2).1.pos ≤ s.size + 12 - d := by
            unfold timesM
            split
            · exact q3
            · rename_i c' hc'
              have := (peekM_some hc').2.1
              split
              · have e : ∀ b f t, (freeM b f t).pos = b.pos := fun _ _ _ => rfl
                dsimp only
                split <;> split <;> simp only [e, nodeM, stepM] <;> omega
              · exact q3
          generalize timesR s (runM s n .atom d b).1 (reM s n .atom .no d b) = a at *
          generalize hr : runM s n .atom d b = r at *
          generalize ht : timesM s r.1 r.2 = t at *
          have hfl : (freeM t.1 p.2 t.2.1).sts.length = t.1.sts.length := by simp [freeM, addF_len]
          have hgl := gt.len
          have hgp := gt.pos
          have h1l := g1.len
          have h3 := hf.cat h2.old h2.frg
          have hfs : (freeM t.1 p.2 t.2.1).sts = addF t.1.sts p.2 t.2.1 := rfl
          rw [← hfs, ← hfl] at h3
          have h4 := ih (.parts (p.1, t.2.2)) (.cat acc a) d (freeM t.1 p.2 t.2.1) lo hd tp (fun h => by cases h) ⟨by rw [hfl]; show p.1 < _; omega, by rw [hfl]; exact pt.2⟩ (by simp only [fuelM, freeM]; omega) h3
          refine ⟨fun k hk => ?_, h4.frg⟩
          have a2 := hf.t0
          have a3 := hf.t1
          rw [h4.old k hk, hfs, addF_ne (by omega)]
          exact h2.old k (by omega)
    | atom =>
      simp only [fuelM] at hn
      obtain rfl : lo = b.sts.length := hu
      have hps := ha rfl
      rw [runM, reM]
      dsimp only
      split
      · split
        · exact one_made _ _ _ (by rw [failM_sts]; rfl)
        · have h := ih .either .no (d + 1) (stepM b) b.sts.length (by omega) (by simp only [stepM]; omega) (fun h => by cases h) trivial (by simp only [fuelM, stepM]; omega) rfl
          exact ⟨fun k hk => by dsimp only; rw [closeM_sts]; exact h.old k hk, by dsimp only; rw [closeM_sts]; exact h.frg⟩
      · split
        · exact one_made _ _ _ (by rw [classM_len]; rfl)
        · split
          · exact one_made _ _ _ rfl
          · split
            · cases hc : peekM s (stepM b) with
              | none => exact one_made b _ _ (by show (failM (stepM b) 2).sts = _; rw [failM_sts]; rfl)
              | some e => exact one_made b _ _ rfl
            · split
              · exact one_made _ _ _ (by rw [failM_sts]; rfl)
              · exact one_made _ _ _ rfl
def reT (p : ByteArray) : Re := reM p (8 * p.size + 5) .either .no 0 bs0
theorem FR_pa {sts : List St} {j k : Nat} (h : FR sts j k) : ∃ n, Pa sts j [] k n := by
  induction h with
  | refl => exact ⟨0, .refl _⟩
  | step h1 h2 ih =>
    obtain ⟨n, p⟩ := ih
    unfold frees at h2
    split at h2
    · rename_i x hx
      exact ⟨_, p.trans (.free hx h2 (.refl _))⟩
    · cases h2
theorem Rn_pa {sts : List St} {st k : Nat} {cs : List Nat} (h : Rn sts st cs k) : ∃ n, Pa sts st cs k n := by
  induction h with
  | start h => exact FR_pa h
  | byte h1 h2 h3 h4 ih =>
    obtain ⟨n, p⟩ := ih
    obtain ⟨m, q⟩ := FR_pa h4
    have := p.trans (.byte h2 h3 q)
    exact ⟨_, this⟩
theorem Rn_free {sts : List St} {st j f : Nat} {cs : List Nat} (h : Rn sts st cs j) (hf : f ∈ frees sts j) : Rn sts st cs f := by
  cases h with
  | start h => exact .start (.step h hf)
  | byte h1 h2 h3 h4 => exact .byte h1 h2 h3 (.step h4 hf)
theorem pa_Rn {sts : List St} {st j k n : Nat} {cs : List Nat} (h : Pa sts j cs k n) : ∀ {c0}, Rn sts st c0 j → Rn sts st (c0 ++ cs) k := by
  induction h with
  | refl => intro c0 h; simpa using h
  | free h1 h2 _ ih => intro c0 h; exact ih (Rn_free h (by unfold frees; rw [h1]; exact h2))
  | byte h1 h2 _ ih =>
    intro c0 h
    have := ih (Rn.byte h h1 h2 (.refl _))
    rw [List.append_assoc] at this
    exact this
theorem Rn_iff {sts : List St} {st k : Nat} {cs : List Nat} : Rn sts st cs k ↔ ∃ n, Pa sts st cs k n :=
  ⟨Rn_pa, fun ⟨_, p⟩ => by have := pa_Rn (c0 := []) p (.start (.refl _)); simpa using this⟩
theorem reT_made (p : ByteArray) : Made bs0 0 (runR p) (reT p) :=
  reM_made p _ .either .no 0 bs0 0 (by omega) (by simp [bs0]) (fun h => by cases h) trivial (by simp [fuelM, bs0]) rfl
theorem fits_re (p t : ByteArray) : FitsP p t ↔ errM p = 0 ∧ Lr (reT p) (bytesN t) := by
  unfold FitsP
  rw [Rn_iff, endR_sts, (reT_made p).frg.lang]
end Go.Proofs.YtgbapkechngnmaaGreat
/- The reference's class: a contract. -/
namespace Go.Proofs.YtgbapkechngnmaaGreat
open Go.RowKit
def RLoop (w0 : World) (g : Nat) (s : ByteArray) (r : Bs × (Nat → Bool)) (v : Value) (w : World) : Prop :=
 ∃ (n i : Nat) (b : Bs) (S : Nat → Bool), v = .int .i64 (i : Nat) ∧ loopM s (n + 1) (decide (i = 0)) b S = r ∧ s.size - b.pos ≤ n ∧ b.pos ≤ s.size + 1 ∧ i ≤ b.pos ∧ Clr w0 w g s b (nodeC 0 S nilS)
theorem rloop_none {s : ByteArray} {n : Nat} {first : Bool} {b : Bs} {S : Nat → Bool} (h : peekM s b = none) : loopM s (n + 1) first b S = (failM b 2, S) := by rw [loopM, h]
theorem rloop_first {s : ByteArray} {n : Nat} {b : Bs} {S : Nat → Bool} (h : peekM s b = some 93) : loopM s (n + 1) true b S = (failM b 2, S) := by rw [loopM, h]; rfl
theorem rloop_end {s : ByteArray} {n : Nat} {b : Bs} {S : Nat → Bool} (h : peekM s b = some 93) : loopM s (n + 1) false b S = (stepM b, S) := by rw [loopM, h]; rfl
theorem rloop_on {s : ByteArray} {n d : Nat} {first : Bool} {b : Bs} {S : Nat → Bool} (h : peekM s b = some d) (hd : d ≠ 93) {x : Bs × Nat} (hx : signM s b = x) {y : Bs × Nat} (hy : rangeM s x.1 x.2 = y) : loopM s (n + 1) first b S = loopM s n false (if y.2 < x.2 then failM y.1 2 else y.1) (addS S x.2 y.2) := by
 rw [loopM, h]
 dsimp only
 rw [if_neg hd, hx, hy]
theorem rrange_false {s : ByteArray} {b : Bs} (h : peekM s b ≠ some 45) : rangeB s b = false := by unfold rangeB; rw [decide_eq_false h]; rfl
theorem rrange_at {s : ByteArray} {b : Bs} (h : peekM s b = some 45) : rangeB s b = (decide (b.pos + 1 < s.size) && !decide (byteM s (b.pos + 1) = 93)) := by unfold rangeB; rw [decide_eq_true h]; rfl
theorem rpeek_lt {s : ByteArray} {b : Bs} {c : Nat} (h : peekM s b = some c) : c < 256 := by rw [(peekM_some h).2.2]; exact byteM_lt _ _
theorem wp_forget2 {Pr : Program} {Q : Exit → Act → World → Prop} {c : Code} {a : Act} {W : World} (P : World → Prop) (h : P W) (k : ∀ W', P W' → Code.wp Pr c Q a W') : Code.wp Pr c Q a W := k W h
theorem is_94 (o : Option Nat) : (((o.getD 0 : Nat) : Int) == 94) = decide (o = some 94) := by
 cases o with
 | none => rfl
 | some c =>
  by_cases h : c = 94
  ·subst h; rfl
  ·rw [decide_eq_false (by simpa using h), beq_eq_false_iff_ne]
   show (c : Int) ≠ 94
   omega
set_option maxHeartbeats 12800000 in
set_option maxRecDepth 100000 in
theorem rclass_is (w : World) (g : Nat) (s : ByteArray) (b1 : Bs) (h : RdrAt w g s b1) (hp : b1.pos ≤ s.size) (hs : s.size ≤ 1000) :
  Calls Tryz.prog 131 #[.pointer (some ⟨g, 0, none⟩)] w fun e w' => ∃ S' b', e = .returned (.agg (nodeC 0 S' nilS).toArray) ∧ RdrAt w' g s b' ∧ b'.err = (classM s b1).1.err ∧ b'.pos ≤ s.size + 1 ∧
   (b'.err = 0 → b'.pos = (classM s b1).1.pos ∧ nodeC 0 S' nilS = nodeC 0 (classM s b1).2 nilS) ∧ Kr g w w' := by
 have hc := Clr.new h 0 62
 have kf := fun W b (h : RdrAt W g s b) => rfail_is W g s b 2 h
 have KF := Lib.hid kf
 have HC0 := Lib.hid hc
 clear kf hc h
 go_enter Tryz.func131, Tryz.ntmps131
 go_upto_region 2 with (first
  | (with_reducible refine wpList_allocN rfl rfl _ rfl w.heap.size rfl ?_)
  | (with_reducible refine wpList_allocN rfl rfl _ rfl (w.heap.size + 1) (World.size_alloc _ _) ?_)
  | ((with_reducible refine wpList_buildN rfl _ rfl _ rfl (zeroN 0) ?hf ?_); (case hf => exact node_built0))
  | ((with_reducible refine wpList_storeN rfl _ _ rfl _ rfl (w.heap.size + 1) 0 (nodeC 0 noB nilS) ?hx ?hy ?ht (nodeC_len _ _ _) (oneN _ _) ?_); (case hx => rfl); (case hy => rfl); (case ht => exact (by have := there_new (w.alloc (.cells (zeroN 0) 62)) 0 62; rwa [World.size_alloc] at this))))
 refine wp_forget2 (fun W => Clr w W g s b1 (nodeC 0 noB nilS)) HC0.out (fun w1 hw1 => ?_)
 have H1 := Lib.hid hw1
 obtain ⟨o, ho⟩ : ∃ o, peekM s b1 = o := ⟨_, rfl⟩
 have k1 := next_is w1 g s b1 o ho H1.out.rdr (by omega)
 have HO := Lib.hid ho
 clear ho hw1 HC0
 go_wp2_with fail
 refine k1.mono ?_
 rintro e w2 ⟨rfl, hb⟩
 have H2 := Lib.hid (H1.out.below hb)
 clear k1 hb H1
 obtain ⟨nt, hnt⟩ : ∃ nt, decide (o = some 94) = nt := ⟨_, rfl⟩
 have hv : (((o.getD 0 : Nat) : Int) == 94) = nt := (is_94 o).trans hnt
 have HNT := Lib.hid hnt
 clear hnt
 go_upto_if 22 with fail
 clear hv
 go_cut [] from 23 (fun wx => Hid (Clr w wx g s (if nt = true then stepM b1 else b1) (nodeC 0 noB nilS)))
 case first =>
  cases nt with
  | true =>
   have c1 := H2.out.rdr.c1
   have f1 := there_free H2.out.rdr.th 1 (by omega)
   go_wp2
   go_meet
   exact Lib.hid (by rw [if_pos (by simp)]; exact H2.out.step)
  | false =>
   go_wp2
   go_meet
   exact Lib.hid (by rw [if_neg (by simp)]; exact H2.out)
 case rest =>
 obtain ⟨b0, hb0⟩ : ∃ b0, (if nt = true then stepM b1 else b1) = b0 := ⟨_, rfl⟩
 rw [hb0] at hcut
 have HX := hcut
 have hp0 : b0.pos ≤ s.size + 1 := by rw [← hb0]; split <;> (try simp only [stepM]) <;> omega
 obtain ⟨r0, hr0⟩ : ∃ r0, loopM s (s.size + 1) true b0 noS = r0 := ⟨_, rfl⟩
 have HR0 := Lib.hid hr0
 have HCM : Hid (classM s b1 = (r0.1, if nt = true then turnS r0.2 else r0.2)) := Lib.hid (by
  have h1 := HNT.out
  unfold classM
  cases nt with
  | true =>
   have h2 : o = some 94 := of_decide_eq_true h1
   rw [if_pos (HO.out.trans h2), if_pos rfl]
   rw [if_pos rfl] at hb0
   rw [hb0, hr0]
  | false =>
   have h2 : ¬ o = some 94 := of_decide_eq_false h1
   rw [if_neg (by rw [HO.out]; exact h2), if_neg (by decide)]
   rw [if_neg (by decide)] at hb0
   rw [hb0, hr0])
 clear hr0 hb0 hcut H2 HO HNT hp
 go_wp2
 go_loopw [7] (fun v wr => RLoop w g s r0 v wr) (fun _ wr => s.size + 5 - rposAt wr g)
 case atStart => exact ⟨s.size, 0, b0, noS, rfl, HR0.out, by omega, hp0, by omega, HX.out⟩
 case round =>
  clear HX HR0 hp0 b0
  obtain ⟨n, i, b, S, rfl, he, hn, hp, hip, hC⟩ := hrel
  have HE := Lib.hid he
  have HC := Lib.hid hC
  obtain ⟨o, ho⟩ : ∃ o, peekM s b = o := ⟨_, rfl⟩
  have k1 := next_is wr g s b o ho HC.out.rdr (by omega)
  have HO := Lib.hid ho
  clear he hC ho
  go_wp2_with fail
  refine k1.mono ?_
  rintro e wa ⟨rfl, hba⟩
  have HA := Lib.hid (HC.out.below hba)
  clear k1 hba
  rcases o with _ | d
  ·have kq := KF.out _ _ HA.out.rdr
   go_wp2_with fail
   refine kq.mono ?_
   rintro e w1 ⟨rfl, hB1, hs1⟩
   have H1 := Lib.hid (HA.out.stp hB1 hs1)
   clear kq hB1 hs1
   go_wp2_with (first
   | ((with_reducible refine wpList_loadN rfl _ rfl _ rfl (w.heap.size + 1) 0 ?hx (nodeC 0 S nilS) ?hc (nodeC_len _ _ _) ?_); (case hx => rfl); (case hc => exact H1.out.nd.at_))
   | ((with_reducible refine wpList_storeN rfl _ _ rfl _ rfl w.heap.size 0 (nodeC 0 S nilS) ?hx ?hy ?ht (nodeC_len _ _ _) (oneN _ _) ?_); (case hx => rfl); (case hy => rfl); (case ht => exact H1.out.res)))
   refine bodyPost_ret (results_agg1 rfl _ _ w.heap.size (nodeC 0 S nilS) (.struct _) rfl (World.rangeAt_setCells_same _ _ _ _ (by rw [nodeC_len]; exact H1.out.res)) Tryz.underlying62 rfl (by rw [nodeC_len]; exact node_size)) rfl ?_
   have he := HE.out
   rw [rloop_none HO.out] at he
   subst he
   refine ⟨S, _, rfl, (H1.out.done _).1, ?_, ?_, ?_, (H1.out.done _).2⟩
   ·rw [HCM.out]
   ·rw [failM_pos]; exact hp
   ·intro h0; exact absurd h0 (failM_err (by decide))
  ·by_cases hd : d = 93
   ·subst hd
    have c1 := HA.out.rdr.c1
    have f1 := there_free HA.out.rdr.th 1 (by omega)
    have hps := (peekM_some HO.out).2.1
    have hi0 : (((i : Nat) : Int) == 0) = decide (i = 0) := by
     by_cases h : i = 0
     ·subst h; rfl
     ·rw [decide_eq_false h, beq_eq_false_iff_ne]; omega
    obtain ⟨B, hB⟩ : ∃ B, decide (i = 0) = B := ⟨_, rfl⟩
    rw [hB] at hi0
    have HBI := Lib.hid hB
    clear hB
    go_upto_region 14 with fail
    refine wp_forget2 (fun W => Clr w W g s (stepM b) (nodeC 0 S nilS)) HA.out.step (fun w2 hw2 => ?_)
    have H2 := Lib.hid hw2
    clear hw2 c1 f1 HA HC
    go_upto_if 52 with fail
    clear hi0
    go_cut [] from 30 to 118 (fun wx => ∃ b' : Bs, b'.err = r0.1.err ∧ b'.pos ≤ s.size + 1 ∧ (b'.err = 0 → b'.pos = r0.1.pos) ∧ r0.2 = S ∧ Hid (Clr w wx g s b' (nodeC 0 S nilS)))
    case first =>
     have he := HE.out
     rw [HBI.out] at he
     cases B with
     | true =>
      rw [rloop_first HO.out] at he
      subst he
      have kq := KF.out _ _ H2.out.rdr
      go_wp2_with fail
      refine kq.mono ?_
      rintro e w3 ⟨rfl, hB3, hs3⟩
      have H3 := Lib.hid (H2.out.stp hB3 hs3)
      clear kq hB3 hs3
      go_wp2
      go_meet
      have he0 := (peekM_some HO.out).1
      refine ⟨_, ?_, ?_, ?_, by trivial, H3⟩
      ·unfold failM stepM; simp [he0]
      ·rw [failM_pos]; simp only [stepM]; omega
      ·intro h0; exact absurd h0 (failM_err (by decide))
     | false =>
      rw [rloop_end HO.out] at he
      subst he
      go_wp2
      go_meet
      exact ⟨stepM b, rfl, by simp only [stepM]; omega, fun _ => rfl, by trivial, H2⟩
    case rest =>
    obtain ⟨b', he1, he2, he3, he4, H4⟩ := hcut
    subst he4
    have HF := Lib.hid (And.intro he1 (And.intro he2 he3))
    clear he1 he2 he3 H2 HE HO HBI hps hip hp hn
    generalize r0.2 = S at *
    cases nt with
    | true =>
     go_wp2
     go_loopw [13] (fun v wr => ∃ k : Nat, v = .int .i64 (k : Nat) ∧ k ≤ 256 ∧ Hid (Clr w wr g s b' (nodeC 0 (turnU S k) nilS))) (fun v _ => 257 - (intOf v).toNat)
     case atStart => exact ⟨0, rfl, by omega, Lib.hid (by rw [turnU_zero]; exact H4.out)⟩
     case round =>
      clear H4
      obtain ⟨k, rfl, hk, HT⟩ := hrel
      by_cases hk2 : k < 256
      ·have n1 := HT.out.nd.cell (nodeC_set 0 (turnU S k) nilS k hk2)
       have f1 := HT.out.nd.free (j := 1 + k) (by omega)
       have hk0 : (0 : Int) ≤ (k : Int) := by omega
       have hk1 : (k : Int) < 256 := by omega
       go_wp2
       go_roundw
       case rel => exact ⟨k + 1, by go_num, by omega, Lib.hid (by
        have := HT.out.put (1 + k) (.bool (!(turnU S k k))) (by omega)
        rw [nodeC_setB 0 _ _ k hk2, turnU_at, turnU_succ] at this
        rw [turnU_at]
        exact this)⟩
       case measure => (simp [intOf]; try omega)
      ·obtain rfl : k = 256 := by omega
       go_wp2_with (first
   | ((with_reducible refine wpList_loadN rfl _ rfl _ rfl (w.heap.size + 1) 0 ?hx (nodeC 0 (turnU S 256) nilS) ?hc (nodeC_len _ _ _) ?_); (case hx => rfl); (case hc => exact HT.out.nd.at_))
   | ((with_reducible refine wpList_storeN rfl _ _ rfl _ rfl w.heap.size 0 (nodeC 0 (turnU S 256) nilS) ?hx ?hy ?ht (nodeC_len _ _ _) (oneN _ _) ?_); (case hx => rfl); (case hy => rfl); (case ht => exact HT.out.res)))
       refine bodyPost_ret (results_agg1 rfl _ _ w.heap.size (nodeC 0 (turnU S 256) nilS) (.struct _) rfl (World.rangeAt_setCells_same _ _ _ _ (by rw [nodeC_len]; exact HT.out.res)) Tryz.underlying62 rfl (by rw [nodeC_len]; exact node_size)) rfl ?_
       refine ⟨turnU S 256, _, rfl, (HT.out.done _).1, ?_, HF.out.2.1, ?_, (HT.out.done _).2⟩
       ·rw [HCM.out]; exact HF.out.1
       ·intro h0
        refine ⟨?_, ?_⟩
        ·rw [HCM.out]; exact HF.out.2.2 h0
        ·rw [HCM.out, if_pos (by simp)]; exact turnU_all S 0 nilS
    | false =>
     go_wp2
     go_loopw [13] (fun v wr => v = .int .i64 ((0 : Nat) : Int) ∧ Hid (Clr w wr g s b' (nodeC 0 S nilS))) (fun v _ => 0)
     case atStart => exact ⟨rfl, H4⟩
     case round =>
      clear H4
      obtain ⟨rfl, HT⟩ := hrel
      go_wp2_with (first
   | ((with_reducible refine wpList_loadN rfl _ rfl _ rfl (w.heap.size + 1) 0 ?hx (nodeC 0 S nilS) ?hc (nodeC_len _ _ _) ?_); (case hx => rfl); (case hc => exact HT.out.nd.at_))
   | ((with_reducible refine wpList_storeN rfl _ _ rfl _ rfl w.heap.size 0 (nodeC 0 S nilS) ?hx ?hy ?ht (nodeC_len _ _ _) (oneN _ _) ?_); (case hx => rfl); (case hy => rfl); (case ht => exact HT.out.res)))
      refine bodyPost_ret (results_agg1 rfl _ _ w.heap.size (nodeC 0 S nilS) (.struct _) rfl (World.rangeAt_setCells_same _ _ _ _ (by rw [nodeC_len]; exact HT.out.res)) Tryz.underlying62 rfl (by rw [nodeC_len]; exact node_size)) rfl ?_
      refine ⟨S, _, rfl, (HT.out.done _).1, ?_, HF.out.2.1, ?_, (HT.out.done _).2⟩
      ·rw [HCM.out]; exact HF.out.1
      ·intro h0
       refine ⟨?_, ?_⟩
       ·rw [HCM.out]; exact HF.out.2.2 h0
       ·rw [HCM.out, if_neg (by simp)]
   ·have hdb : ((d : Int) == 93) = false := by rw [beq_eq_false_iff_ne]; omega
    have HD := Lib.hid hd
    have hps := (peekM_some HO.out).2.1
    obtain ⟨xb, lo, hx⟩ : ∃ xb lo, signM s b = (xb, lo) := ⟨_, _, rfl⟩
    have k2 := rsign_is wa g s b HA.out.rdr (by omega)
    have hsp := signM_pos s b hps
    have hlo := signM_lt s b
    rw [hx] at k2 hsp hlo
    dsimp only at k2 hsp hlo
    have HX := Lib.hid hx
    clear hd hx
    go_wp2_with fail
    refine k2.mono ?_
    rintro e wb ⟨rfl, hBb, hsb⟩
    have HB := Lib.hid (HA.out.stp hBb hsb)
    clear k2 hBb hsb HA
    obtain ⟨o2, ho2⟩ : ∃ o2, peekM s xb = o2 := ⟨_, rfl⟩
    have k3 := next_is wb g s xb o2 ho2 HB.out.rdr (by omega)
    have HO2 := Lib.hid ho2
    clear ho2
    go_wp2_with fail
    refine k3.mono ?_
    rintro e wc ⟨rfl, hbc⟩
    have HCC := Lib.hid (HB.out.below hbc)
    clear k3 hbc HB
    go_upto_region 19 with fail
    go_cut [93] from 30 to 118 (fun v wx => v = .bool (rangeB s xb) ∧ Hid (Clr w wx g s xb (nodeC 0 S nilS)))
    case first =>
     have c0 := HCC.out.rdr.c0
     have c1 := HCC.out.rdr.c1
     rcases o2 with _ | e2
     ·simp only [Option.getD_none, Option.isSome_none]
      go_big_quiet (fail)
      go_wp2
      go_meet
      exact ⟨by rw [rrange_false (by rw [HO2.out]; simp)], Lib.hid (HCC.out.below (bl_drewN (Below.refl _ _) _))⟩
     ·simp only [Option.getD_some, Option.isSome_some]
      by_cases h45 : e2 = 45
      ·subst h45
       have hwr : IntKind.i64.wrap ((xb.pos : Int) + 1) = (xb.pos : Int) + 1 := IntWalk.i64_in _ ⟨by omega, by omega⟩
       by_cases hin : xb.pos + 1 < s.size
       ·have hi0 : (0 : Int) ≤ (xb.pos : Int) + 1 := by omega
        have hi1 : (xb.pos : Int) + 1 < (s.size : Int) := by omega
        have hnt : ((xb.pos : Int) + 1).toNat = xb.pos + 1 := by omega
        have hd1 : decide ((xb.pos : Int) + 1 < (s.size : Int)) = true := decide_eq_true hi1
        have hba := rbyte_at s (xb.pos + 1) hin
        have h9 : (((s[xb.pos + 1]'hin).toNat : Int) != 93) = !decide (byteM s (xb.pos + 1) = 93) := by
         rw [hba]
         by_cases h : byteM s (xb.pos + 1) = 93
         ·rw [h]; rfl
         ·rw [decide_eq_false h]; simp; omega
        clear hba
        go_big_quiet (fail)
        go_wp2
        go_meet
        exact ⟨by rw [rrange_at HO2.out, decide_eq_true hin, Bool.true_and], Lib.hid (HCC.out.below (bl_drewN (Below.refl _ _) _))⟩
       ·have hd1 : decide ((xb.pos : Int) + 1 < (s.size : Int)) = false := decide_eq_false (by omega)
        go_big_quiet (fail)
        go_wp2
        go_meet
        exact ⟨by rw [rrange_at HO2.out, decide_eq_false hin, Bool.false_and], Lib.hid (HCC.out.below (bl_drewN (Below.refl _ _) _))⟩
      ·have hb45 : ((e2 : Int) == 45) = false := by rw [beq_eq_false_iff_ne]; omega
       go_big_quiet (fail)
       go_wp2
       go_meet
       exact ⟨by rw [rrange_false (by rw [HO2.out]; simpa using h45)], Lib.hid (HCC.out.below (bl_drewN (Below.refl _ _) _))⟩
    case rest =>
    obtain ⟨rfl, HQ⟩ := hcut
    clear HCC HO2
    obtain ⟨R, hR⟩ : ∃ R, rangeB s xb = R := ⟨_, rfl⟩
    have HRB := Lib.hid hR
    rw [hR]
    clear hR
    go_upto_if 93 with fail
    go_cut [11] from 30 to 118 (fun v wx => ∃ (yb : Bs) (hi : Nat), v = .int .u8 (hi : Nat) ∧ hi < 256 ∧ b.pos < yb.pos ∧ yb.pos ≤ s.size + 1 ∧ Hid (rangeM s xb lo = (yb, hi)) ∧ Hid (Clr w wx g s yb (nodeC 0 S nilS)))
    case first =>
     cases R with
     | true =>
      have hin := rangeB_pos HRB.out
      have c1 := HQ.out.rdr.c1
      have f1 := there_free HQ.out.rdr.th 1 (by omega)
      go_upto_region 21 with fail
      refine wp_forget2 (fun W => Clr w W g s (stepM xb) (nodeC 0 S nilS)) HQ.out.step (fun w2 hw2 => ?_)
      have H2 := Lib.hid hw2
      clear hw2 c1 f1 HQ
      obtain ⟨yb, hi, hye⟩ : ∃ yb hi, signM s (stepM xb) = (yb, hi) := ⟨_, _, rfl⟩
      have k4 := rsign_is w2 g s (stepM xb) H2.out.rdr (by simp only [stepM]; omega)
      have hsp2 := signM_pos s (stepM xb) hin
      have hhi := signM_lt s (stepM xb)
      rw [hye] at k4 hsp2 hhi
      dsimp only at k4 hsp2 hhi
      simp only [stepM] at hsp2
      have HY := Lib.hid hye
      clear hye
      go_wp2_with fail
      refine k4.mono ?_
      rintro e wd ⟨rfl, hBd, hsd⟩
      have HDD := Lib.hid (H2.out.stp hBd hsd)
      clear k4 hBd hsd H2
      go_wp2
      go_meet
      exact ⟨yb, hi, rfl, hhi, by omega, hsp2.2, Lib.hid (by unfold rangeM; rw [if_pos HRB.out]; exact HY.out), HDD⟩
     | false =>
      go_wp2
      go_meet
      exact ⟨xb, lo, rfl, hlo, hsp.1, hsp.2, Lib.hid (by unfold rangeM; rw [if_neg (by rw [HRB.out]; decide)]), HQ⟩
    case rest =>
    obtain ⟨yb, hi, rfl, hhi, hyp1, hyp2, HY, HDD⟩ := hcut
    clear HQ HRB
    obtain ⟨B, hB⟩ : ∃ B, decide ((hi : Int) < (lo : Int)) = B := ⟨_, rfl⟩
    go_upto_if 105 with fail
    go_cut [] from 30 to 118 (fun wx => Hid (Clr w wx g s (if hi < lo then failM yb 2 else yb) (nodeC 0 S nilS)))
    case first =>
     cases B with
     | true =>
      have hlt : hi < lo := by have := of_decide_eq_true hB; omega
      have kq := KF.out _ _ HDD.out.rdr
      go_wp2_with fail
      refine kq.mono ?_
      rintro e w3 ⟨rfl, hB3, hs3⟩
      have H3 := Lib.hid (HDD.out.stp hB3 hs3)
      clear kq hB3 hs3
      go_wp2
      go_meet
      exact Lib.hid (by rw [if_pos hlt]; exact H3.out)
     | false =>
      have hlt : ¬ hi < lo := by have := of_decide_eq_false hB; omega
      go_wp2
      go_meet
      exact Lib.hid (by rw [if_neg hlt]; exact HDD.out)
    case rest =>
    clear hB HDD
    obtain ⟨zb, hz⟩ : ∃ zb, (if hi < lo then failM yb 2 else yb) = zb := ⟨_, rfl⟩
    rw [hz] at hcut
    have hzp : zb.pos = yb.pos := by rw [← hz]; split <;> simp only [failM_pos]
    have HZ := Lib.hid hz
    have HG := hcut
    clear hz hcut
    go_wp2
    go_loopw [12] (fun v wr => ∃ k : Nat, v = .int .i64 (k : Nat) ∧ lo ≤ k ∧ (k ≤ hi + 1 ∨ k = lo) ∧ Hid (Clr w wr g s zb (nodeC 0 (addU S lo k) nilS))) (fun v _ => 257 - (intOf v).toNat)
    case atStart => exact ⟨lo, rfl, Nat.le_refl _, .inr rfl, Lib.hid (by rw [addU_start]; exact HG.out)⟩
    case round =>
     clear HG
     obtain ⟨k, rfl, hk1, hk2, HT⟩ := hrel
     by_cases hk : k ≤ hi
     ·have hk256 : k < 256 := by omega
      have n1 := HT.out.nd.cell (nodeC_set 0 (addU S lo k) nilS k hk256)
      have f1 := HT.out.nd.free (j := 1 + k) (by omega)
      have hkh : (k : Int) ≤ (hi : Int) := by omega
      have hki0 : (0 : Int) ≤ (k : Int) := by omega
      have hki1 : (k : Int) < 256 := by omega
      go_wp2
      go_roundw
      case rel => exact ⟨k + 1, by go_num, by omega, by omega, Lib.hid (by
       have := HT.out.put (1 + k) (.bool true) (by omega)
       rw [nodeC_setB 0 _ _ k hk256, addU_succ hk1] at this
       exact this)⟩
      case measure => (simp [intOf]; try omega)
     ·have hkh : ¬ (k : Int) ≤ (hi : Int) := by omega
      have hkh2 : (hi : Int) < (k : Int) := by omega
      go_wp2
      go_roundw
      case rel =>
       refine ⟨n - 1, i + 1, zb, addS S lo hi, by go_num, ?_, by omega, by omega, by omega, ?_⟩
       ·have he := HE.out
        rw [rloop_on HO.out HD.out HX.out HY.out] at he
        dsimp only at he
        rw [HZ.out] at he
        have hn1 : n - 1 + 1 = n := by omega
        rw [hn1]
        exact he
       ·rw [← addU_end (show hi < k by omega) hk2]; exact HT.out
      case measure =>
       rw [HT.out.rdr.posAt, HC.out.rdr.posAt]
       omega
end Go.Proofs.YtgbapkechngnmaaGreat
/- The reference's tree: kids under way; what a function of the reader gives back. -/
namespace Go.Proofs.YtgbapkechngnmaaGreat
open Go.RowKit
structure Un (w0 w : World) (kv : Value) (md : Nat) (l : List (List Value)) (a : Re) (ok : Prop) : Prop where
 own : w.ownsRow (w0.heap.size + 2) 62 258 kv l.length l.flatten
 each : ∀ x ∈ l, x.length = 258 ∧ ∀ y ∈ x, y.oneCell' = true
 tree : ok → NA w (fun q => w0.heap.size + 2 ≤ q ∧ q < w.heap.size ∧ kv.ownBlock ≠ some q) md l a
theorem ownsRow_keep {w w' : World} {base : Nat} {e : TypeId} {size n : Nat} {v : Value} {xs : List Value} (h : w.ownsRow base e size v n xs) (hk : ∀ q, v.ownBlock = some q → w'.heap[q]? = w.heap[q]?) : w'.ownsRow base e size v n xs := by
 obtain ⟨h1, h2 | ⟨g, cap, cur, rfl, hb, hg, hr⟩⟩ := h
 ·exact ⟨h1, .inl h2⟩
 ·exact ⟨h1, .inr ⟨g, cap, cur, rfl, hb, (hk g rfl).trans hg, hr⟩⟩
theorem ownsRow_at {w : World} {base : Nat} {e : TypeId} {size n : Nat} {v : Value} {xs : List Value} (h : w.ownsRow base e size v n xs) : ∀ q, v.ownBlock = some q → base ≤ q ∧ q < w.heap.size := by
 obtain ⟨h1, ⟨rfl, _⟩ | ⟨g, cap, cur, rfl, hb, hg, hr⟩⟩ := h
 ·intro q hq; cases hq
 ·intro q hq
  cases hq
  exact ⟨hb, (Array.getElem?_eq_some_iff.1 hg).1⟩
theorem ownsRow_one {w : World} {base : Nat} {e : TypeId} {size n : Nat} {v : Value} {xs : List Value} (h : w.ownsRow base e size v n xs) : v.oneCell' = true := by
 obtain ⟨h1, ⟨rfl, _⟩ | ⟨g, cap, cur, rfl, hb, hg, hr⟩⟩ := h <;> rfl
theorem Un.nil (w0 w : World) {md : Nat} {a : Re} (h : ∀ P, NA w P md [] a) (ok : Prop) : Un w0 w nilS md [] a ok := ⟨World.ownsRow_nil _ _ _ _, fun x hx => (by cases hx), fun _ => h _⟩
theorem Un.keep {w0 w w' : World} {kv : Value} {md : Nat} {l : List (List Value)} {a : Re} {ok : Prop} (h : Un w0 w kv md l a ok) (hs : w.heap.size ≤ w'.heap.size) (hk : ∀ q, w0.heap.size + 2 ≤ q → q < w.heap.size → w'.heap[q]? = w.heap[q]?) : Un w0 w' kv md l a ok :=
 ⟨ownsRow_keep h.own fun q hq => (let ⟨h1, h2⟩ := ownsRow_at h.own q hq; hk q h1 h2), h.each, fun o => ((h.tree o).keep hs fun q hq hlt => hk q hq.1 hlt).mono fun _ hq => ⟨hq.1, Nat.lt_of_lt_of_le hq.2.1 hs, hq.2.2⟩⟩
theorem Un.kr {g : Nat} {w0 w w' : World} {kv : Value} {md : Nat} {l : List (List Value)} {a : Re} {ok : Prop} (h : Un w0 w kv md l a ok) (hk : Kr g w w') (hg : g < w0.heap.size) : Un w0 w' kv md l a ok :=
 h.keep hk.size fun q h1 h2 => hk.block q h2 (by omega)
theorem Un.below {w0 w w' : World} {kv : Value} {md : Nat} {l : List (List Value)} {a : Re} {ok : Prop} (h : Un w0 w kv md l a ok) (hb : Below w.heap.size w w') : Un w0 w' kv md l a ok :=
 h.keep hb.size fun q _ h2 => hb.block q h2
theorem Un.put {w0 w : World} {kv : Value} {md : Nat} {l : List (List Value)} {a : Re} {ok : Prop} (h : Un w0 w kv md l a ok) (p i : Nat) (v : Value) (hp : p < w0.heap.size + 2) : Un w0 (w.setCell ⟨p, i, none⟩ v) kv md l a ok :=
 h.keep (by simp) fun q h1 _ => Below.heap_setCell w ⟨p, i, none⟩ v q (by show q ≠ p; omega)
theorem Un.puts {w0 w : World} {kv : Value} {md : Nat} {l : List (List Value)} {a : Re} {ok : Prop} (h : Un w0 w kv md l a ok) (p i : Nat) (vs : List Value) (hp : p < w0.heap.size + 2) : Un w0 (w.setCells p i vs) kv md l a ok :=
 h.keep (by rw [size_setCells]; exact Nat.le_refl _) fun q h1 _ => heap_setCells w p q (by omega) vs i
theorem Un.kids {w0 w : World} {kv : Value} {md : Nat} {l : List (List Value)} {a : Re} {ok : Prop} (h : Un w0 w kv md l a ok) (hl : l.length ≤ 1000000) : KidsAt w (fun q => w0.heap.size ≤ q ∧ q < w.heap.size) kv l :=
 ⟨RdAt.own h.own, fun x hx => (h.each x hx).1, fun q hq => (let ⟨h1, h2⟩ := ownsRow_at h.own q hq; ⟨by omega, h2⟩), hl⟩
theorem Un.all {w0 w : World} {kv : Value} {md : Nat} {l : List (List Value)} {a : Re} {ok : Prop} (h : Un w0 w kv md l a ok) (o : ok) : NA w (fun q => w0.heap.size ≤ q ∧ q < w.heap.size) md l a :=
 (h.tree o).mono fun q hq => ⟨by omega, hq.2.1⟩
theorem Un.app {w0 w w' : World} {kv kv' : Value} {md : Nat} {l : List (List Value)} {a b c : Re} {ok ok' : Prop} {cs : List Value} (h : Un w0 w kv md l a ok) (hown : w'.ownsRow (w0.heap.size + 2) 62 258 kv' (l.length + 1) (l.flatten ++ cs))
  (hg : w.grownBy w' kv.ownBlock) (ho : kv'.ownBlock = kv.ownBlock ∨ kv'.ownBlock = some w.heap.size) (hcs : cs.length = 258 ∧ ∀ y ∈ cs, y.oneCell' = true) (hk : ok' → ok)
  (ht : ok' → NA w (fun q => w0.heap.size + 2 ≤ q ∧ q < w.heap.size ∧ kv.ownBlock ≠ some q) 0 [cs] b) (hf : ∀ (W : World) (P : Nat → Prop), NA W P md l a → NA W P 0 [cs] b → NA W P md (l ++ [cs]) c) : Un w0 w' kv' md (l ++ [cs]) c ok' := by
 have hsz : w.heap.size ≤ w'.heap.size := hg.size
 have hkeep : ∀ q, (w0.heap.size + 2 ≤ q ∧ q < w.heap.size ∧ kv.ownBlock ≠ some q) → q < w.heap.size → w'.heap[q]? = w.heap[q]? := fun q hq hlt => hg.block q hlt (fun e => hq.2.2 e.symm)
 refine ⟨by rw [List.length_append, List.flatten_append, List.flatten_singleton]; exact hown, fun x hx => ?_, fun o => ?_⟩
 ·rcases List.mem_append.1 hx with hx | hx
  ·exact h.each x hx
  ·rw [List.mem_singleton.1 hx]; exact hcs
 ·refine NA.mono (hf w' _ ((h.tree (hk o)).keep hsz hkeep) ((ht o).keep hsz hkeep)) ?_
  rintro q ⟨h1, h2, h3⟩
  refine ⟨h1, by omega, fun e => ?_⟩
  rcases ho with ho | ho
  ·rw [ho] at e; exact h3 e
  ·rw [ho] at e; cases e; omega
theorem RdrAt.congr {w : World} {g : Nat} {s : ByteArray} {b c : Bs} (h : RdrAt w g s b) (hp : b.pos = c.pos) (he : b.err = c.err) : RdrAt w g s c := ⟨h.c0, by rw [← hp]; exact h.c1, by rw [← he]; exact h.c2, h.th, h.lt⟩
theorem Clr.congr {w0 w : World} {g : Nat} {s : ByteArray} {b c : Bs} {cs : List Value} (h : Clr w0 w g s b cs) (hp : b.pos = c.pos) (he : b.err = c.err) : Clr w0 w g s c cs := ⟨h.rdr.congr hp he, h.nd, h.res, h.kr, h.gl⟩
theorem peek_congr {s : ByteArray} {b c : Bs} (he : b.err = c.err) (hp : b.err = 0 → b.pos = c.pos) : peekM s b = peekM s c := by
 unfold peekM
 by_cases h : b.err = 0
 ·have h2 := hp h
  rw [he, h2]
 ·rw [if_neg (fun x => h x.1), if_neg (fun x => h (he.trans x.1))]
theorem Clr.grown {w0 w w' : World} {g : Nat} {s : ByteArray} {b : Bs} {cs : List Value} {row : Option Nat} (h : Clr w0 w g s b cs) (hg : w.grownBy w' row) (hr : ∀ q, row = some q → w0.heap.size + 2 ≤ q) : Clr w0 w' g s b cs := by
 have hk : ∀ k, k < w.heap.size → k < w0.heap.size + 2 → w'.heap[k]? = w.heap[k]? := fun k hk hk2 => hg.block k hk (fun e => by have := hr k e.symm; omega)
 have hsz : w.heap.size ≤ w'.heap.size := hg.size
 have hlt := h.nd.lt
 have hgl := h.gl
 exact ⟨h.rdr.kept hsz (hk g h.rdr.lt (by omega)), h.nd.keep hsz (hk _ hlt (by omega)), there_kept h.res (hk _ (by omega) (by omega)), Keep.grown h.kr hg (fun k e => .inr (by have := hr k e; omega)), h.gl⟩
theorem Un.ok {w0 w : World} {kv : Value} {md : Nat} {l : List (List Value)} {a : Re} {ok ok' : Prop} (h : Un w0 w kv md l a ok) (o : ok' → ok) : Un w0 w kv md l a ok' := ⟨h.own, h.each, fun x => h.tree (o x)⟩
structure Back (w w' : World) (g : Nat) (s : ByteArray) (d : Nat) (r : Bs × (Nat × Nat)) (a : Re) (cs : List Value) (b' : Bs) : Prop where
 len : cs.length = 258
 one : ∀ y ∈ cs, y.oneCell' = true
 rdr : RdrAt w' g s b'
 err : b'.err = r.1.err
 pos : b'.pos ≤ s.size + 12 - d
 tree : b'.err = 0 → b'.pos = r.1.pos ∧ NA w' (fun q => w.heap.size ≤ q ∧ q < w'.heap.size) 0 [cs] a
 kr : Kr g w w'
def NdK (f : FuncId) (md : Md) (n : Nat) : Prop := ∀ (m : Nat), m ≤ n → ∀ (w : World) (g : Nat) (s : ByteArray) (d : Nat) (b : Bs), RdrAt w g s b → b.err = 0 → d ≤ 8 → b.pos ≤ s.size + 12 - d → (md = .atom → b.pos < s.size ∧ byteM s b.pos ≠ 124 ∧ byteM s b.pos ≠ 41) → s.size ≤ 100 → fuelM s b md ≤ m →
 Calls Tryz.prog f #[.pointer (some ⟨g, 0, none⟩), .int .i64 (d : Nat)] w fun e w' => ∃ cs b', e = .returned (.agg cs.toArray) ∧ Back w w' g s d (runM s m md d b) (reM s m md .no d b) cs b'
theorem fill_node (cs : List Value) (hl : cs.length = 258) (z : Array Value) (hz : z.size = 258) : Instr.fill (fun i => some (i * 258, 258)) z [(0, .agg cs.toArray)] = some cs.toArray := by
 obtain ⟨r, hr, hsz, hk⟩ := Great.fill_dense (s := 258) (by decide) [.agg cs.toArray] 0 z (fun v hv => by rw [List.mem_singleton.1 hv]; show cs.toArray.size = 258; simpa using hl) (by simp [hz])
 have e : r = cs.toArray := by
  apply Array.ext_getElem?
  intro k
  rw [hk k]
  by_cases h : k < 258
  ·rw [if_pos ⟨by omega, by simpa using h⟩, show k / 258 - 0 = 0 by omega, Nat.mod_eq_of_lt h]
   rfl
  ·rw [if_neg (by simp; omega), Array.getElem?_eq_none (by omega), Array.getElem?_eq_none (by simp; omega)]
 rw [e] at hr
 exact hr
theorem fill_one (a : Act) (x : Operand) (cs : List Value) (hl : cs.length = 258) (hx : a.eval x = .agg cs.toArray) : Instr.fill (fun i => some (i * 258, 258)) ((Array.range (1 * 258)).map ((Value.agg (zeroN 0)).cells[· % (Value.agg (zeroN 0)).cells.size]!)) ((#[(0, x)] : Array (Nat × Operand)).map fun (i, x) => (i, a.eval x)).toList = some cs.toArray := by
 simp only [List.map_toArray, List.map_cons, List.map_nil, hx]
 exact fill_node cs hl _ (by rw [Array.size_map, Array.size_range])
theorem built_kids (a : Act) (x y : Operand) (k : Int) (ad : Option Addr) (n c : Nat) (hx : a.eval x = .int .i64 k) (hy : a.eval y = .slice ad n c) : Tryz.prog.built 62 ((#[(0, x), (2, y)] : Array (Nat × Operand)).map fun (i, x) => (i, a.eval x)).toList = some (nodeC k noB (.slice ad n c)).toArray := by
 simp only [List.map_toArray, List.map_cons, List.map_nil, hx, hy]
 exact node_built3 k ad n c
theorem info_node : (Tryz.prog.info? 62).map (fun i => (i.zero, i.size, i.bytes)) = some (some (.agg (zeroN 0)), 258, 288) := node_zero
theorem rd_node {w : World} {cs : List Value} (hl : cs.length = 258) (t : TypeId) : RdAt (w.alloc (.cells cs.toArray t)) (.slice (some ⟨w.heap.size, 0, none⟩) 1 1) 1 258 cs := by
 refine ⟨by rw [hl], .inr ⟨_, 1, rfl, Nat.le_refl _, fun _ => ⟨w.heap.size, 0, rfl, by rw [World.size_alloc]; omega, fun j x hx => ?_⟩⟩⟩
 rw [Nat.zero_add]
 exact (box_cells (Below.refl _ (w.alloc (.cells cs.toArray t)))).1 j x (by simpa using hx)
end Go.Proofs.YtgbapkechngnmaaGreat
/- The reference's either: a contract (with row's for less fuel). -/
namespace Go.Proofs.YtgbapkechngnmaaGreat
open Go.RowKit
def ELoop (w0 : World) (g : Nat) (s : ByteArray) (d N : Nat) (r : Bs × (Nat × Nat)) (a : Re) (w : World) : Prop :=
 ∃ (m : Nat) (b : Bs) (p : Nat × Nat) (l : List (List Value)) (acc : Re) (kv : Value), m ≤ N ∧ b.err = 0 ∧ b.pos ≤ s.size + 12 - d ∧ fuelM s b (.alts p) ≤ m ∧ l.length ≤ b.pos ∧
  Hid (runM s m (.alts p) d b = r) ∧ Hid (reM s m (.alts p) acc d b = a) ∧ Hid (Clr w0 w g s b (nodeC 1 noB kv)) ∧ Hid (Un w0 w kv 1 l acc True)
set_option maxHeartbeats 12800000 in
set_option maxRecDepth 100000 in
theorem either_is (n : Nat) (hrow : NdK 89 .row n) : NdK 68 .either (n + 1) := by
 intro m hm w g s d b h he hd hp _ hs hf
 simp only [fuelM] at hf
 obtain ⟨m, rfl⟩ : ∃ m', m = m' + 2 := ⟨m - 2, by omega⟩
 obtain ⟨r, hr⟩ : ∃ r, runM s (m + 1) (.alts (b.sts.length, b.sts.length + 1)) d (nodeM (nodeM b)) = r := ⟨_, rfl⟩
 obtain ⟨a, ha⟩ : ∃ a, reM s (m + 1) (.alts (b.sts.length, b.sts.length + 1)) .no d (nodeM (nodeM b)) = a := ⟨_, rfl⟩
 have e1 : runM s (m + 2) .either d b = r := by rw [runM]; exact hr
 have e2 : reM s (m + 2) .either .no d b = a := by rw [reM]; exact ha
 rw [e1, e2]
 have HR0 := Lib.hid hr
 have HA0 := Lib.hid ha
 obtain ⟨b0, hb0⟩ : ∃ b0, nodeM (nodeM b) = b0 := ⟨_, rfl⟩
 have hbp : b0.pos = b.pos := by rw [← hb0]; rfl
 have hbe : b0.err = 0 := by rw [← hb0]; exact he
 have h0 : RdrAt w g s b0 := h.congr hbp.symm (by rw [hbe]; exact he)
 rw [hb0] at HR0 HA0
 have hc := Clr.new h0 1 62
 have HC0 := Lib.hid hc
 have HROW := Lib.hid hrow
 obtain ⟨i0, hi, hz0, hz1, hz2⟩ := info_parts info_node
 clear hrow hr ha e1 e2 hb0 hc h h0
 go_enter Tryz.func68, Tryz.ntmps68
 go_wp2_with (first
  | (with_reducible refine wpList_allocN rfl rfl _ rfl w.heap.size rfl ?_)
  | (with_reducible refine wpList_allocN rfl rfl _ rfl (w.heap.size + 1) (World.size_alloc _ _) ?_)
  | ((with_reducible refine wpList_buildN rfl _ rfl _ rfl (zeroN 1) ?hf ?_); (case hf => exact node_built1))
  | ((with_reducible refine wpList_storeN rfl _ _ rfl _ rfl (w.heap.size + 1) 0 (nodeC 1 noB nilS) ?hx ?hy ?ht (nodeC_len _ _ _) (oneN _ _) ?_); (case hx => rfl); (case hy => rfl); (case ht => exact (by have := there_new (w.alloc (.cells (zeroN 0) 62)) 0 62; rwa [World.size_alloc] at this))))
 refine wp_forget2 (fun W => Clr w W g s b0 (nodeC 1 noB nilS)) HC0.out (fun w1 hw1 => ?_)
 have H1 := Lib.hid hw1
 clear hw1 HC0
 simp only [Act.put, List.setIfInBounds_toArray, List.set_cons_zero, List.set_cons_succ]
 go_loopw [] (fun wr => ELoop w g s d (m + 1) r a wr) (fun wr => s.size + 15 - rposAt wr g)
 case atStart => exact ⟨m + 1, b0, _, [], .no, nilS, Nat.le_refl _, hbe, by omega, by simp only [fuelM]; omega, by simp, HR0, HA0, H1, Lib.hid (Un.nil w w1 (fun P => .a0) True)⟩
 case round =>
  clear H1 HR0 HA0 hbp hbe b0
  obtain ⟨k, b, p, l, acc, kv, hk, he, hp, hf, hl, HR, HA, HC, HU⟩ := hrel
  simp only [fuelM] at hf
  obtain ⟨k, rfl⟩ : ∃ k', k = k' + 1 := ⟨k - 1, by omega⟩
  have ok := runM_ok s k .row d b hd hp (fun h => by cases h) trivial (by simp only [fuelM]; omega)
  obtain ⟨g1, _, _, q3, _⟩ := ok
  have hgp := g1.pos
  clear g1
  have HR' := HR.out
  have HA' := HA.out
  rw [runM] at HR'
  rw [reM] at HA'
  (try dsimp only at HR' HA')
  have hkr := fun W (h : RdrAt W g s b) => HROW.out k (by omega) W g s d b h he hd hp (fun h => by cases h) hs (by simp only [fuelM]; omega)
  obtain ⟨rr, hrr⟩ : ∃ rr, runM s k .row d b = rr := ⟨_, rfl⟩
  obtain ⟨ra, hra⟩ : ∃ ra, reM s k .row .no d b = ra := ⟨_, rfl⟩
  rw [hrr] at HR' HA' hkr q3 hgp
  rw [hra] at HA' hkr
  obtain ⟨b2, hb2⟩ : ∃ b2, freeM (freeM rr.1 p.1 rr.2.1) rr.2.2 p.2 = b2 := ⟨_, rfl⟩
  have hp2 : b2.pos = rr.1.pos := by rw [← hb2]; rfl
  have he2 : b2.err = rr.1.err := by rw [← hb2]; rfl
  rw [hb2] at HR' HA'
  have HR1 := Lib.hid HR'
  have HA1 := Lib.hid HA'
  have KR := Lib.hid hkr
  clear HR' HA' hrr hra hb2 hkr HR HA
  have hl60 : l.length ≤ 200 := by omega
  have hRP : Hid (rposAt wr g = b.pos) := Lib.hid HC.out.rdr.posAt
  go_upto_region 2 with fail
  refine wp_region_heldS 8 (S := (fun W => W.cell? ⟨w.heap.size + 1, 257, none⟩ = some kv)) (by kernel_rfl) (HC.out.nd.cell (nodeC_kids _ _ _)) (fun hHeld => ?_)
  refine heldS_take (i := 0) (v := ?_) rfl rfl (by kernel_rfl) (by kernel_rfl) (by kernel_rfl) (by kernel_rfl) (by kernel_rfl) (fun _ _ _ h => h) (by rfl) hHeld ?_ ?_
  rotate_left
  ·rintro wh hS
   go_simp
   (try with_reducible rfl)
  simp only [Act.put, List.setIfInBounds_toArray, List.set_cons_zero, List.set_cons_succ]
  refine heldS_take (i := 1) (v := ?_) rfl rfl (by kernel_rfl) (by kernel_rfl) (by kernel_rfl) (by kernel_rfl) (by kernel_rfl) (fun _ _ _ h => h) (by rfl) hHeld ?_ ?_
  rotate_left
  ·rintro wh hS
   go_simp
   (try with_reducible rfl)
  simp only [Act.put, List.setIfInBounds_toArray, List.set_cons_zero, List.set_cons_succ]
  refine heldS_take (i := 2) (v := ?_) rfl rfl (by kernel_rfl) (by kernel_rfl) (by kernel_rfl) (by kernel_rfl) (by kernel_rfl) (fun _ _ _ h => h) (by rfl) hHeld ?_ ?_
  rotate_left
  ·rintro wh hS
   go_simp
   (try with_reducible rfl)
  simp only [Act.put, List.setIfInBounds_toArray, List.set_cons_zero, List.set_cons_succ]
  refine heldS_take (i := 3) (v := ?_) rfl rfl (by kernel_rfl) (by kernel_rfl) (by kernel_rfl) (by kernel_rfl) (by kernel_rfl) (fun _ _ _ h => h) (by rfl) hHeld ?_ ?_
  rotate_left
  ·rintro wh hS
   go_simp
   (try with_reducible rfl)
  simp only [Act.put, List.setIfInBounds_toArray, List.set_cons_zero, List.set_cons_succ]
  refine heldS_step (i := 4) rfl (by kernel_rfl) (fun K hK => ?_)
  go_simp; refine (KR.out _ (HC.out.below (Below.refl _ _).drew).rdr).mono ?_; rintro e w4 ⟨cs, b', rfl, hbk⟩; have hc4 := (HC.out.below (Below.refl _ _).drew).stp hbk.rdr hbk.kr; have hu4 := (HU.out.below (Below.refl _ _).drew).kr hbk.kr HC.out.gl; have HBK := Lib.hid hbk; have HC4 := Lib.hid hc4; have HU4 := Lib.hid hu4; clear hbk hc4 hu4
  refine hK.out _ _ (HC4.out.nd.cell (nodeC_kids _ _ _)) (fun hHeld => ?_)
  clear hK K
  (try simp only [Act.put, List.setIfInBounds_toArray])
  have h5 := HC4.out.below (alloc_below w4 (.cells cs.toArray 62))
  refine heldS_step (i := 5) rfl (by kernel_rfl) (fun K hK => ?_)
  rw [if_pos (by rfl)]; refine wp_buildSlice 60 62 1 _ rfl cs.toArray i0 (.agg (zeroN 0)) Tryz.underlying60 hi hz0 (by rw [hz1]; decide) (by rw [hz1]; decide) (by rw [hz1]; exact fill_one _ _ cs HBK.out.len rfl) ?_
  refine hK.out _ _ (h5.nd.cell (nodeC_kids _ _ _)) (fun hHeld => ?_)
  clear hK K
  (try simp only [Act.put, List.setIfInBounds_toArray])
  have HC5 := Lib.hid h5
  have HU5 := Lib.hid (HU4.out.below (alloc_below w4 (.cells cs.toArray 62)))
  have HRD := Lib.hid (rd_node (w := w4) HBK.out.len 62)
  have HT5 : Hid (b'.err = 0 → NA (w4.alloc (.cells cs.toArray 62)) (fun q => w.heap.size + 2 ≤ q ∧ q < (w4.alloc (.cells cs.toArray 62)).heap.size ∧ kv.ownBlock ≠ some q) 0 [cs] ra) := Lib.hid (fun h0 => (((HBK.out.tree h0).2).later (alloc_below w4 (.cells cs.toArray 62))).mono (by
   rintro q ⟨h1, h2⟩
   have hlt := HC.out.nd.lt
   have h1 : wr.heap.size ≤ q := h1
   refine ⟨by omega, by rw [World.size_alloc]; omega, fun e => ?_⟩
   have := (ownsRow_at HU.out.own q e).2
   omega))
  have HB5 : Hid (w.heap.size + 2 ≤ (w4.alloc (.cells cs.toArray 62)).heap.size) := Lib.hid (by have := HC5.out.nd.lt; omega)
  clear h5
  generalize (w4.alloc (.cells cs.toArray 62)) = w5 at *
  refine heldS_step (i := 6) rfl (by kernel_rfl) (fun K hK => ?_)
  refine step_append_rd rfl (.tmp 10) (.tmp 14) 60 rfl (w.heap.size + 2) 62 i0 (.agg (zeroN 0)) 258 288 Tryz.underlying60 hi hz0 hz1 hz2 (zeroN_size 0) (by decide) kv l.length l.flatten rfl HU5.out.own _ 1 cs rfl HRD.out HBK.out.one (by unfold maxLen; omega) (by omega) HB5.out ?_; intro kv' w6 hown hgrow hor; obtain ⟨ka, kc, rfl, -, -⟩ := RdAt.shape (RdAt.own hown); have hc6 := HC5.out.grown hgrow (fun q hq => (ownsRow_at HU5.out.own q hq).1); have f6 := hc6.nd.free (j := 257) (by omega); have HC6 := Lib.hid hc6; clear hc6; have HOWN := Lib.hid hown; have HGROW := Lib.hid hgrow; have HOR := Lib.hid hor; clear hown hgrow hor
  refine hK.out _ _ (HC6.out.nd.cell (nodeC_kids _ _ _)) (fun hHeld => ?_)
  clear hK K
  (try simp only [Act.put])
  refine heldS_step (i := 7) rfl (by kernel_rfl) (fun K hK => ?_)
  go_simp
  refine hK.out _ _ (HC6.out.nd.cell (nodeC_kids _ _ _)) (fun hHeld => ?_)
  clear hK K
  (try simp only [Act.put, List.setIfInBounds_toArray])
  refine heldS_last (i := 8) rfl (by kernel_rfl) (by kernel_rfl) (fun K hK => ?_)
  go_simp
  refine hK.out _ _ ?_
  clear hK K
  (try simp only [Act.put, List.setIfInBounds_toArray])
  refine wpAnyEnd_done (by kernel_rfl) ?_ _
  go_upto_region 3 with fail
  refine wp_forget2 (fun W => Clr w W g s b' (nodeC 1 noB (.slice ka (l.length + 1) kc)) ∧ Un w W (.slice ka (l.length + 1) kc) 1 (l ++ [cs]) (.alt acc ra) (b'.err = 0)) ⟨by
    have := HC6.out.put 257 (.slice ka (l.length + 1) kc) (by omega)
    rwa [nodeC_setK] at this, (HU5.out.app HOWN.out HGROW.out HOR.out ⟨HBK.out.len, HBK.out.one⟩ (fun _ => trivial) HT5.out (fun W P h1 h2 => .a1 h1 h2)).put _ _ _ (by omega)⟩ (fun w7 hw7 => ?_)
  have HC7 := Lib.hid hw7.1
  have HU7 := Lib.hid hw7.2
  clear hw7 HOWN HGROW HOR HC6 HU5 HC5 HT5 HB5 HRD HC HU HC4 HU4 KR f6 hHeld
  have hpk := peek_congr (s := s) (b := b') (c := b2) (HBK.out.err.trans he2.symm) (fun h0 => ((HBK.out.tree h0).1).trans hp2.symm)
  have hbp := HBK.out.pos
  have HPE : Hid (b'.err = b2.err ∧ (b'.err = 0 → b'.pos = b2.pos)) := Lib.hid ⟨HBK.out.err.trans he2.symm, fun h0 => ((HBK.out.tree h0).1).trans hp2.symm⟩
  obtain ⟨o, ho⟩ : ∃ o, peekM s b' = o := ⟨_, rfl⟩
  have k1 := next_is w7 g s b' o ho HC7.out.rdr (by omega)
  have HPK := Lib.hid (hpk.symm.trans ho)
  have HO := Lib.hid ho
  clear hpk ho HBK
  go_wp2_with fail
  refine k1.mono ?_
  rintro e w8 ⟨rfl, hb8⟩
  have HC8 := Lib.hid (HC7.out.below hb8)
  have HU8 := Lib.hid (HU7.out.below hb8)
  clear k1 hb8 HC7 HU7
  have HEND : Hid (peekM s b2 ≠ some 124 → ∃ cs' b'', Value.agg (nodeC 1 noB (.slice ka (l.length + 1) kc)).toArray = .agg cs'.toArray ∧ Back w (w8.setCells w.heap.size 0 (nodeC 1 noB (.slice ka (l.length + 1) kc))) g s d r a cs' b'') := Lib.hid (fun hne => by
   have h1 := HR1.out
   have h2 := HA1.out
   rw [if_neg hne] at h1 h2
   subst h1 h2
   have hu := HU8.out.puts w.heap.size 0 (nodeC 1 noB (.slice ka (l.length + 1) kc)) (by omega)
   exact ⟨_, b', rfl, nodeC_len _ _ _, nodeC_one _ _ _ (ownsRow_one hu.own), (HC8.out.done _).1, HPE.out.1, hbp, fun h0 => ⟨HPE.out.2 h0, .alts (hu.all h0) (hu.kids (by rw [List.length_append, List.length_singleton]; omega))⟩, (HC8.out.done _).2⟩)
  have HONE : Hid (∀ y ∈ nodeC 1 noB (.slice ka (l.length + 1) kc), y.oneCell' = true) := Lib.hid (nodeC_one _ _ _ (ownsRow_one HU8.out.own))
  rcases o with _ | c
  ·go_wp2_with (first
   | ((with_reducible refine wpList_loadN rfl _ rfl _ rfl (w.heap.size + 1) 0 ?hx (nodeC 1 noB (.slice ka (l.length + 1) kc)) ?hc (nodeC_len _ _ _) ?_); (case hx => rfl); (case hc => exact HC8.out.nd.at_))
   | ((with_reducible refine wpList_storeN rfl _ _ rfl _ rfl w.heap.size 0 (nodeC 1 noB (.slice ka (l.length + 1) kc)) ?hx ?hy ?ht (nodeC_len _ _ _) HONE.out ?_); (case hx => rfl); (case hy => rfl); (case ht => exact HC8.out.res)))
   refine bodyPost_ret (results_agg1 rfl _ _ w.heap.size (nodeC 1 noB (.slice ka (l.length + 1) kc)) (.struct _) rfl (World.rangeAt_setCells_same _ _ _ _ (by rw [nodeC_len]; exact HC8.out.res)) Tryz.underlying62 rfl (by rw [nodeC_len]; exact node_size)) rfl ?_
   obtain ⟨cs', b'', e1, e2⟩ := HEND.out (by rw [HPK.out]; simp)
   exact ⟨cs', b'', by rw [e1], e2⟩
  ·by_cases hc : c = 124
   ·subst hc
    have c1 := HC8.out.rdr.c1
    have f1 := there_free HC8.out.rdr.th 1 (by omega)
    obtain ⟨hb0, hbs, -⟩ := peekM_some HO.out
    have hq1 : b'.pos ≤ b2.pos := Nat.le_of_eq (HPE.out.2 hb0)
    have hq2 : b2.pos ≤ b'.pos := Nat.le_of_eq (HPE.out.2 hb0).symm
    have hq3 : b.pos ≤ b2.pos := by omega
    clear hp2 he2
    go_wp2
    go_roundw
    case rel =>
     refine ⟨k, stepM b2, p, l ++ [cs], .alt acc ra, (.slice ka (l.length + 1) kc), by omega, ?_, ?_, ?_, ?_, ?_, ?_, ?_, ?_⟩
     ·show b2.err = 0
      rw [← HPE.out.1]; exact hb0
     ·simp only [stepM]; omega
     ·simp only [fuelM, stepM]; omega
     ·rw [List.length_append]; simp only [stepM, List.length_singleton]; omega
     ·have h1 := HR1.out
      rw [if_pos HPK.out] at h1
      exact Lib.hid h1
     ·have h2 := HA1.out
      rw [if_pos HPK.out] at h2
      exact Lib.hid h2
     ·exact Lib.hid (HC8.out.step.congr (by simp only [stepM]; omega) (by show b'.err = b2.err; exact HPE.out.1))
     ·exact Lib.hid ((HU8.out.kr (Kr.set g w8 1 _) HC8.out.gl).ok (fun _ => hb0))
    case measure =>
     rw [HC8.out.step.rdr.posAt, hRP.out]
     simp only [stepM]
     omega
   ·have hcb : ((c : Int) != 124) = true := by simp; omega
    go_wp2_with (first
   | ((with_reducible refine wpList_loadN rfl _ rfl _ rfl (w.heap.size + 1) 0 ?hx (nodeC 1 noB (.slice ka (l.length + 1) kc)) ?hc (nodeC_len _ _ _) ?_); (case hx => rfl); (case hc => exact HC8.out.nd.at_))
   | ((with_reducible refine wpList_storeN rfl _ _ rfl _ rfl w.heap.size 0 (nodeC 1 noB (.slice ka (l.length + 1) kc)) ?hx ?hy ?ht (nodeC_len _ _ _) HONE.out ?_); (case hx => rfl); (case hy => rfl); (case ht => exact HC8.out.res)))
    refine bodyPost_ret (results_agg1 rfl _ _ w.heap.size (nodeC 1 noB (.slice ka (l.length + 1) kc)) (.struct _) rfl (World.rangeAt_setCells_same _ _ _ _ (by rw [nodeC_len]; exact HC8.out.res)) Tryz.underlying62 rfl (by rw [nodeC_len]; exact node_size)) rfl ?_
    obtain ⟨cs', b'', e1, e2⟩ := HEND.out (by rw [HPK.out]; simpa using hc)
    exact ⟨cs', b'', by rw [e1], e2⟩
end Go.Proofs.YtgbapkechngnmaaGreat
/- The reference's row: a contract (with atom's for less fuel). -/
namespace Go.Proofs.YtgbapkechngnmaaGreat
open Go.RowKit
theorem rtimes_no {s : ByteArray} {b : Bs} {x : Nat × Nat} {a : Re} (h : ∀ c, peekM s b = some c → postB c = false) : timesM s b x = (b, x) ∧ timesR s b a = a := by
 unfold timesM timesR
 cases hc : peekM s b with
 | none => exact ⟨rfl, rfl⟩
 | some c =>
  have h1 := h c hc
  have h2 := h1
  simp only [postB, Bool.or_eq_false_iff, decide_eq_false_iff_not] at h2
  dsimp only
  rw [if_neg (by rw [h1]; decide), if_neg h2.1.1, if_neg h2.1.2, if_neg h2.2]
  exact ⟨rfl, rfl⟩
theorem rtimes_yes {s : ByteArray} {b : Bs} {x : Nat × Nat} {c : Nat} (h : peekM s b = some c) (hp : postB c = true) : (timesM s b x).1.pos = b.pos + 1 ∧ (timesM s b x).1.err = b.err := by
 unfold timesM
 rw [h]
 dsimp only
 rw [if_pos hp]
 dsimp only
 constructor <;> (split <;> split <;> rfl)
theorem timesR_at {s : ByteArray} {b : Bs} {c : Nat} {a : Re} (h : peekM s b = some c) : timesR s b a = if c = 42 then .star a else if c = 43 then .plus a else if c = 63 then .opt a else a := by unfold timesR; rw [h]
def rmeas (w : World) (g N : Nat) : Nat := match w.cell? ⟨g, 2, none⟩ with
 | some (.int _ e) => if e = 0 then N - rposAt w g else 0
 | _ => 0
theorem RdrAt.meas {w : World} {g : Nat} {s : ByteArray} {b : Bs} (h : RdrAt w g s b) (N : Nat) : rmeas w g N = if b.err = 0 then N - b.pos else 0 := by
 unfold rmeas
 rw [h.c2, h.posAt]
def PLoop (w0 : World) (g : Nat) (s : ByteArray) (d N : Nat) (r : Bs × (Nat × Nat)) (a : Re) (w : World) : Prop :=
 ∃ (m : Nat) (b : Bs) (p : Nat × Nat) (l : List (List Value)) (acc : Re) (kv : Value) (b' : Bs), m ≤ N ∧ b.pos ≤ s.size + 12 - d ∧ fuelM s b (.parts p) ≤ m ∧ l.length ≤ b.pos ∧
  b'.err = b.err ∧ (b.err = 0 → b'.pos = b.pos) ∧ b'.pos ≤ s.size + 12 - d ∧
  Hid (runM s m (.parts p) d b = r) ∧ Hid (reM s m (.parts p) acc d b = a) ∧ Hid (Clr w0 w g s b' (nodeC 2 noB kv)) ∧ Hid (Un w0 w kv 2 l acc (b.err = 0))
structure Prt (w0 w : World) (kv : Value) (ab : Nat) (cs : List Value) (a : Re) (ok : Prop) : Prop where
 nd : NdAt w ab cs
 one : ∀ y ∈ cs, y.oneCell' = true
 lo : w0.heap.size + 2 ≤ ab
 tree : ok → NA w (fun q => w0.heap.size + 2 ≤ q ∧ q < w.heap.size ∧ kv.ownBlock ≠ some q ∧ q ≠ ab) 0 [cs] a
theorem Prt.keep {w0 w w' : World} {kv : Value} {ab : Nat} {cs : List Value} {a : Re} {ok ok' : Prop} (h : Prt w0 w kv ab cs a ok) (hs : w.heap.size ≤ w'.heap.size) (hk : ∀ q, w0.heap.size + 2 ≤ q → q < w.heap.size → w'.heap[q]? = w.heap[q]?) (o : ok' → ok) : Prt w0 w' kv ab cs a ok' :=
 ⟨h.nd.keep hs (hk ab h.lo h.nd.lt), h.one, h.lo, fun x => ((h.tree (o x)).keep hs fun q hq hlt => hk q hq.1 hlt).mono fun _ hq => ⟨hq.1, Nat.lt_of_lt_of_le hq.2.1 hs, hq.2.2⟩⟩
theorem Prt.below {w0 w w' : World} {kv : Value} {ab : Nat} {cs : List Value} {a : Re} {ok : Prop} (h : Prt w0 w kv ab cs a ok) (hb : Below w.heap.size w w') : Prt w0 w' kv ab cs a ok := h.keep hb.size (fun q _ h2 => hb.block q h2) id
theorem Prt.kr {g : Nat} {w0 w w' : World} {kv : Value} {ab : Nat} {cs : List Value} {a : Re} {ok : Prop} (h : Prt w0 w kv ab cs a ok) (hk : Kr g w w') (hg : g < w0.heap.size) : Prt w0 w' kv ab cs a ok := h.keep hk.size (fun q h1 h2 => hk.block q h2 (by omega)) id
theorem Prt.wrap {w0 w : World} {kv : Value} {ab : Nat} {cs : List Value} {a c : Re} {ok : Prop} (h : Prt w0 w kv ab cs a ok) (k : Int) (t : TypeId) (hown : ∀ q, kv.ownBlock = some q → q < w.heap.size)
  (hf : ∀ (W : World) (P : Nat → Prop) (r : Value), NA W P 0 [cs] a → KidsAt W P r [cs] → NA W P 0 [nodeC k noB r] c) :
  Prt w0 ((w.alloc (.cells cs.toArray t)).setCells ab 0 (nodeC k noB (.slice (some ⟨w.heap.size, 0, none⟩) 1 1))) kv ab (nodeC k noB (.slice (some ⟨w.heap.size, 0, none⟩) 1 1)) c ok := by
 have hb := alloc_below w (.cells cs.toArray t)
 have hs := World.size_alloc w (.cells cs.toArray t)
 have hlt := h.nd.lt
 have hab := h.lo
 have hrd := rd_node (w := w) h.nd.len t
 refine ⟨(h.nd.later hb).stored (nodeC_len _ _ _), nodeC_one _ _ _ rfl, h.lo, fun x => hf _ _ _ ?_ ⟨?_, fun y hy => by rw [List.mem_singleton.1 hy]; exact h.nd.len, ?_, by simp⟩⟩
 ·refine (((h.tree x).later hb).keep (w' := (w.alloc (.cells cs.toArray t)).setCells ab 0 (nodeC k noB (.slice (some ⟨w.heap.size, 0, none⟩) 1 1))) (by rw [size_setCells]; exact Nat.le_refl _) (fun q hq _ => heap_setCells _ _ _ hq.2.2.2 _ _)).mono (fun q hq => ⟨hq.1, by rw [size_setCells]; have := hq.2.1; omega, hq.2.2⟩)
 ·have e : ([cs] : List (List Value)).flatten = cs := by simp
  rw [e]
  exact rd_keepB hrd (by rw [size_setCells]; exact Nat.le_refl _) (fun q hq _ => heap_setCells _ _ _ (by cases hq; show w.heap.size ≠ ab; omega) _ _)
 ·intro q hq
  cases hq
  show w0.heap.size + 2 ≤ w.heap.size ∧ w.heap.size < _ ∧ _ ∧ w.heap.size ≠ ab
  refine ⟨by omega, by rw [size_setCells]; omega, fun e => ?_, by omega⟩
  have h1 : w.heap.size < w.heap.size := hown _ e
  omega
structure Kq (w0 w3 w : World) (ab : Nat) : Prop where
 eq : w3.heap.size = ab
 le : ab ≤ w.heap.size
 kp : ∀ q, w0.heap.size + 2 ≤ q → q < ab → w.heap[q]? = w3.heap[q]?
theorem Kq.below {w0 w3 w w' : World} {ab : Nat} (h : Kq w0 w3 w ab) (hb : Below w.heap.size w w') : Kq w0 w3 w' ab := ⟨h.eq, Nat.le_trans h.le hb.size, fun q h1 h2 => (hb.block q (by have := h.le; omega)).trans (h.kp q h1 h2)⟩
theorem Kq.kr {g : Nat} {w0 w3 w w' : World} {ab : Nat} (h : Kq w0 w3 w ab) (hk : Kr g w w') (hg : g < w0.heap.size) : Kq w0 w3 w' ab := ⟨h.eq, Nat.le_trans h.le hk.size, fun q h1 h2 => (hk.block q (by have := h.le; omega) (by omega)).trans (h.kp q h1 h2)⟩
theorem Kq.puts {w0 w3 w : World} {ab : Nat} (h : Kq w0 w3 w ab) (vs : List Value) : Kq w0 w3 (w.setCells ab 0 vs) ab := ⟨h.eq, by rw [size_setCells]; exact h.le, fun q h1 h2 => (heap_setCells _ _ _ (by omega) _ _).trans (h.kp q h1 h2)⟩
theorem Kq.un {w0 w3 w : World} {ab : Nat} {kv : Value} {md : Nat} {l : List (List Value)} {a : Re} {ok : Prop} (h : Kq w0 w3 w ab) (hu : Un w0 w3 kv md l a ok) : Un w0 w kv md l a ok := hu.keep (by rw [h.eq]; exact h.le) (fun q h1 h2 => h.kp q h1 (by rw [← h.eq]; exact h2))
theorem rtimes_pos (s : ByteArray) (b : Bs) (x : Nat × Nat) (N : Nat) (h1 : b.pos ≤ N) (h2 : s.size ≤ N) : (timesM s b x).1.pos ≤ N := by
 unfold timesM
 split
 ·exact h1
 ·rename_i c hc
  have := (peekM_some hc).2.1
  split
  ·have e : ∀ b f t, (freeM b f t).pos = b.pos := fun _ _ _ => rfl
   dsimp only
   split <;> split <;> simp only [e, nodeM, stepM] <;> omega
  ·exact h1
set_option maxHeartbeats 12800000 in
set_option maxRecDepth 100000 in
theorem row_is (n : Nat) (hatom : NdK 113 .atom n) : NdK 89 .row (n + 1) := by
 intro m hm w g s d b h he hd hp _ hs hf
 simp only [fuelM] at hf
 obtain ⟨m, rfl⟩ : ∃ m', m = m' + 2 := ⟨m - 2, by omega⟩
 obtain ⟨r, hr⟩ : ∃ r, runM s (m + 1) (.parts (b.sts.length, b.sts.length)) d (nodeM b) = r := ⟨_, rfl⟩
 obtain ⟨a, ha⟩ : ∃ a, reM s (m + 1) (.parts (b.sts.length, b.sts.length)) .eps d (nodeM b) = a := ⟨_, rfl⟩
 have e1 : runM s (m + 2) .row d b = r := by rw [runM]; exact hr
 have e2 : reM s (m + 2) .row .no d b = a := by rw [reM]; exact ha
 rw [e1, e2]
 have HR0 := Lib.hid hr
 have HA0 := Lib.hid ha
 obtain ⟨b0, hb0⟩ : ∃ b0, nodeM b = b0 := ⟨_, rfl⟩
 have hbp : b0.pos = b.pos := by rw [← hb0]; rfl
 have hbe : b0.err = 0 := by rw [← hb0]; exact he
 have h0 : RdrAt w g s b0 := h.congr hbp.symm (by rw [hbe]; exact he)
 rw [hb0] at HR0 HA0
 have hc := Clr.new h0 2 62
 have HC0 := Lib.hid hc
 have HATOM := Lib.hid hatom
 obtain ⟨i0, hi, hz0, hz1, hz2⟩ := info_parts info_node
 clear hatom hr ha e1 e2 hb0 hc h h0
 go_enter Tryz.func89, Tryz.ntmps89
 go_wp2_with (first
  | (with_reducible refine wpList_allocN rfl rfl _ rfl w.heap.size rfl ?_)
  | (with_reducible refine wpList_allocN rfl rfl _ rfl (w.heap.size + 1) (World.size_alloc _ _) ?_)
  | ((with_reducible refine wpList_buildN rfl _ rfl _ rfl (zeroN 2) ?hf ?_); (case hf => exact node_built2))
  | ((with_reducible refine wpList_storeN rfl _ _ rfl _ rfl (w.heap.size + 1) 0 (nodeC 2 noB nilS) ?hx ?hy ?ht (nodeC_len _ _ _) (oneN _ _) ?_); (case hx => rfl); (case hy => rfl); (case ht => exact (by have := there_new (w.alloc (.cells (zeroN 0) 62)) 0 62; rwa [World.size_alloc] at this))))
 refine wp_forget2 (fun W => Clr w W g s b0 (nodeC 2 noB nilS)) HC0.out (fun w1 hw1 => ?_)
 have H1 := Lib.hid hw1
 clear hw1 HC0
 simp only [Act.put, List.setIfInBounds_toArray, List.set_cons_zero, List.set_cons_succ]
 go_loopw [] (fun wr => PLoop w g s d (m + 1) r a wr) (fun wr => rmeas wr g (s.size + 15))
 case atStart => exact ⟨m + 1, b0, _, [], .eps, nilS, b0, Nat.le_refl _, by omega, by simp only [fuelM]; omega, by simp, rfl, fun _ => rfl, by omega, HR0, HA0, H1, Lib.hid (Un.nil w w1 (fun P => .r0) _)⟩
 case round =>
  clear H1 HR0 HA0 hbp hbe b0
  obtain ⟨k, b, p, l, acc, kv, bx, hk, hp, hf, hl, hx1, hx2, hx3, HR, HA, HC, HU⟩ := hrel
  simp only [fuelM] at hf
  obtain ⟨k, rfl⟩ : ∃ k', k = k' + 1 := ⟨k - 1, by omega⟩
  have HR' := HR.out
  have HA' := HA.out
  rw [runM] at HR'
  rw [reM] at HA'
  have hpk := peek_congr (s := s) (b := bx) (c := b) hx1 (fun h0 => hx2 (hx1.symm.trans h0))
  obtain ⟨o, ho⟩ : ∃ o, peekM s bx = o := ⟨_, rfl⟩
  have k1 := next_is wr g s bx o ho HC.out.rdr (by omega)
  have HPK := Lib.hid (hpk.symm.trans ho)
  have HO := Lib.hid ho
  rw [HPK.out] at HR' HA'
  have HR1 := Lib.hid HR'
  have HA1 := Lib.hid HA'
  have HX := Lib.hid (And.intro hx1 hx2)
  clear hpk ho HR' HA' HR HA hx1 hx2
  go_wp2_with fail
  refine k1.mono ?_
  rintro e w2 ⟨rfl, hb2⟩
  have HC2 := Lib.hid (HC.out.below hb2)
  have HU2 := Lib.hid (HU.out.below hb2)
  have HMS : Hid (rmeas wr g (s.size + 15) = if bx.err = 0 then s.size + 15 - bx.pos else 0) := Lib.hid (HC.out.rdr.meas _)
  clear k1 hb2 HC HU
  have HEND : Hid ((b, p) = r → acc = a → ∃ cs' b'', Value.agg (nodeC 2 noB kv).toArray = .agg cs'.toArray ∧ Back w (w2.setCells w.heap.size 0 (nodeC 2 noB kv)) g s d r a cs' b'') := Lib.hid (fun h1 h2 => by
   subst h1 h2
   have hu := HU2.out.puts w.heap.size 0 (nodeC 2 noB kv) (by omega)
   exact ⟨_, bx, rfl, nodeC_len _ _ _, nodeC_one _ _ _ (ownsRow_one hu.own), (HC2.out.done _).1, HX.out.1, hx3, fun h0 => ⟨HX.out.2 (HX.out.1.symm.trans h0), .row (hu.all (HX.out.1.symm.trans h0)) (hu.kids (by omega))⟩, (HC2.out.done _).2⟩)
  have HONE : Hid (∀ y ∈ nodeC 2 noB kv, y.oneCell' = true) := Lib.hid (nodeC_one _ _ _ (ownsRow_one HU2.out.own))
  rcases o with _ | c
  ·go_wp2_with (first
   | ((with_reducible refine wpList_loadN rfl _ rfl _ rfl (w.heap.size + 1) 0 ?hx (nodeC 2 noB kv) ?hc (nodeC_len _ _ _) ?_); (case hx => rfl); (case hc => exact HC2.out.nd.at_))
   | ((with_reducible refine wpList_storeN rfl _ _ rfl _ rfl w.heap.size 0 (nodeC 2 noB kv) ?hx ?hy ?ht (nodeC_len _ _ _) HONE.out ?_); (case hx => rfl); (case hy => rfl); (case ht => exact HC2.out.res)))
   refine bodyPost_ret (results_agg1 rfl _ _ w.heap.size (nodeC 2 noB kv) (.struct _) rfl (World.rangeAt_setCells_same _ _ _ _ (by rw [nodeC_len]; exact HC2.out.res)) Tryz.underlying62 rfl (by rw [nodeC_len]; exact node_size)) rfl ?_
   obtain ⟨cs', b'', e1, e2⟩ := HEND.out HR1.out HA1.out
   exact ⟨cs', b'', by rw [e1], e2⟩
  ·by_cases hc : c = 124 ∨ c = 41
   ·have HR2 : Hid ((b, p) = r) := Lib.hid (by have := HR1.out; dsimp only at this; rwa [if_pos hc] at this)
    have HA2 : Hid (acc = a) := Lib.hid (by have := HA1.out; dsimp only at this; rwa [if_pos hc] at this)
    clear HR1 HA1
    rcases hc with rfl | rfl
    ·go_wp2_with (first
   | ((with_reducible refine wpList_loadN rfl _ rfl _ rfl (w.heap.size + 1) 0 ?hx (nodeC 2 noB kv) ?hc (nodeC_len _ _ _) ?_); (case hx => rfl); (case hc => exact HC2.out.nd.at_))
   | ((with_reducible refine wpList_storeN rfl _ _ rfl _ rfl w.heap.size 0 (nodeC 2 noB kv) ?hx ?hy ?ht (nodeC_len _ _ _) HONE.out ?_); (case hx => rfl); (case hy => rfl); (case ht => exact HC2.out.res)))
     refine bodyPost_ret (results_agg1 rfl _ _ w.heap.size (nodeC 2 noB kv) (.struct _) rfl (World.rangeAt_setCells_same _ _ _ _ (by rw [nodeC_len]; exact HC2.out.res)) Tryz.underlying62 rfl (by rw [nodeC_len]; exact node_size)) rfl ?_
     obtain ⟨cs', b'', e1, e2⟩ := HEND.out HR2.out HA2.out
     exact ⟨cs', b'', by rw [e1], e2⟩
    ·go_wp2_with (first
   | ((with_reducible refine wpList_loadN rfl _ rfl _ rfl (w.heap.size + 1) 0 ?hx (nodeC 2 noB kv) ?hc (nodeC_len _ _ _) ?_); (case hx => rfl); (case hc => exact HC2.out.nd.at_))
   | ((with_reducible refine wpList_storeN rfl _ _ rfl _ rfl w.heap.size 0 (nodeC 2 noB kv) ?hx ?hy ?ht (nodeC_len _ _ _) HONE.out ?_); (case hx => rfl); (case hy => rfl); (case ht => exact HC2.out.res)))
     refine bodyPost_ret (results_agg1 rfl _ _ w.heap.size (nodeC 2 noB kv) (.struct _) rfl (World.rangeAt_setCells_same _ _ _ _ (by rw [nodeC_len]; exact HC2.out.res)) Tryz.underlying62 rfl (by rw [nodeC_len]; exact node_size)) rfl ?_
     obtain ⟨cs', b'', e1, e2⟩ := HEND.out HR2.out HA2.out
     exact ⟨cs', b'', by rw [e1], e2⟩
   ·have hc1 : ((c : Int) == 124) = false := by rw [beq_eq_false_iff_ne]; omega
    have hc2 : ((c : Int) == 41) = false := by rw [beq_eq_false_iff_ne]; omega
    have hn1 : ¬ c = 124 := fun h => hc (.inl h)
    have hn2 : ¬ c = 41 := fun h => hc (.inr h)
    have hn3 : ¬ (c : Int) = 124 := by omega
    have hn4 : ¬ (c : Int) = 41 := by omega
    obtain ⟨hb0, hbs, hbc⟩ := peekM_some HPK.out
    have HBC := Lib.hid hbc
    clear hbc
    have hbx0 : bx.err = 0 := HX.out.1.trans hb0
    have hbxp : bx.pos = b.pos := HX.out.2 hb0
    have ok := runM_ok s k .atom d b hd hp (fun _ => hbs) trivial (by simp only [fuelM]; omega)
    obtain ⟨g1, q1, q2, q3, q4⟩ := ok
    obtain ⟨q5, _⟩ := q4 rfl
    have HR' := HR1.out
    have HA' := HA1.out
    (try dsimp only at HR' HA')
    rw [if_neg hc] at HR' HA'
    have hka := fun W (h : RdrAt W g s bx) => HATOM.out k (by omega) W g s d b (h.congr hbxp (hbx0.trans hb0.symm)) hb0 hd hp (fun _ => ⟨hbs, by rw [← HBC.out]; omega, by rw [← HBC.out]; omega⟩) hs (by simp only [fuelM]; omega)
    obtain ⟨rr, hrr⟩ : ∃ rr, runM s k .atom d b = rr := ⟨_, rfl⟩
    obtain ⟨ra, hra⟩ : ∃ ra, reM s k .atom .no d b = ra := ⟨_, rfl⟩
    rw [hrr] at HR' HA' hka q3 q5 q1 q2
    rw [hra] at HA' hka
    have hgtp := (gd_times s rr.1 rr.2).pos
    have hgtq := rtimes_pos s rr.1 rr.2 (s.size + 12 - d) q3 (by omega)
    have HTY := Lib.hid (fun c (h : peekM s rr.1 = some c) (hp : postB c = true) => rtimes_yes (x := rr.2) h hp)
    have HTN := Lib.hid (fun (h : ∀ c, peekM s rr.1 = some c → postB c = false) => rtimes_no (x := rr.2) (a := ra) h)
    obtain ⟨t, ht⟩ : ∃ t, timesM s rr.1 rr.2 = t := ⟨_, rfl⟩
    obtain ⟨ta, hta⟩ : ∃ ta, timesR s rr.1 ra = ta := ⟨_, rfl⟩
    rw [ht] at HR' HA' hgtp hgtq HTY HTN
    rw [hta] at HA' HTN
    have HTA := Lib.hid hta
    have HR2 := Lib.hid HR'
    have HA2 := Lib.hid HA'
    have hk1 := hka w2 HC2.out.rdr
    clear HR' HA' HR1 HA1 hrr hra ht hta g1 hka HEND HONE hc q1 q2 q4
    go_wp2_with fail
    refine hk1.mono ?_
    rintro e w3 ⟨cs, b1, rfl, hbk⟩
    have HC3 := Lib.hid (HC2.out.stp hbk.rdr hbk.kr)
    have HU3 := Lib.hid (HU2.out.kr hbk.kr HC2.out.gl)
    have HBK := Lib.hid hbk
    have hw3 := HC3.out.nd.lt
    clear hk1 hbk
    have hn3 := NdAt.new w3 0 62
    have hprt : Prt w ((w3.alloc (.cells (zeroN 0) 62)).setCells w3.heap.size 0 cs) kv w3.heap.size cs ra (b1.err = 0) := by
     refine ⟨hn3.stored HBK.out.len, HBK.out.one, by omega, fun h0 => (((HBK.out.tree h0).2).later (alloc_below w3 (.cells (zeroN 0) 62))).keep (by rw [size_setCells]; exact Nat.le_refl _) (fun q hq _ => heap_setCells _ _ _ (by omega) _ _) |>.mono ?_⟩
     rintro q ⟨h1, h2⟩
     have hlt := HC2.out.nd.lt
     refine ⟨by omega, by rw [size_setCells, World.size_alloc]; omega, fun e => ?_, by omega⟩
     have := (ownsRow_at HU2.out.own q e).2
     omega
    have hc4 : Clr w ((w3.alloc (.cells (zeroN 0) 62)).setCells w3.heap.size 0 cs) g s b1 (nodeC 2 noB kv) := by
     have h1 := HC3.out.below (alloc_below w3 (.cells (zeroN 0) 62))
     have hgl := h1.gl
     exact ⟨h1.rdr.kept (by rw [size_setCells]; exact Nat.le_refl _) (heap_setCells _ _ _ (by omega) _ _), h1.nd.keep (by rw [size_setCells]; exact Nat.le_refl _) (heap_setCells _ _ _ (by omega) _ _), there_kept h1.res (heap_setCells _ _ _ (by omega) _ _), h1.kr.news _ (by omega) _ _, h1.gl⟩
    have hu4 : Kq w w3 ((w3.alloc (.cells (zeroN 0) 62)).setCells w3.heap.size 0 cs) w3.heap.size := (show Kq w w3 (w3.alloc (.cells (zeroN 0) 62)) w3.heap.size from ⟨rfl, (alloc_below w3 (.cells (zeroN 0) 62)).size, fun q _ h2 => (alloc_below w3 (.cells (zeroN 0) 62)).block q h2⟩).puts cs
    have HU3 := Lib.hid (HU3.out.ok (ok' := True) (fun _ => hb0))
    have HPR := Lib.hid hprt
    have HC4 := Lib.hid hc4
    have HU4 := Lib.hid hu4
    have HTH : Hid ((w3.alloc (.cells (zeroN 0) 62)).there w3.heap.size 0 258) := Lib.hid hn3.th
    clear hprt hc4 hu4 hn3 HC3 HC2 HU2
    go_upto_region 6 with (first
     | (with_reducible refine wpList_allocN rfl rfl _ rfl w3.heap.size rfl ?_)
     | ((with_reducible refine wpList_storeN rfl _ _ rfl _ rfl w3.heap.size 0 cs ?hx ?hy ?ht HBK.out.len HBK.out.one ?_); (case hx => rfl); (case hy => rfl); (case ht => exact HTH.out)))
    generalize ((w3.alloc (.cells (zeroN 0) 62)).setCells w3.heap.size 0 cs) = w4 at *
    generalize w3.heap.size = ab at *
    have hbp1 := HBK.out.pos
    have HBE : Hid (b1.err = rr.1.err ∧ (b1.err = 0 → b1.pos = rr.1.pos)) := Lib.hid ⟨HBK.out.err, fun h0 => (HBK.out.tree h0).1⟩
    have hcl := HBK.out.len
    clear HBK HTH
    obtain ⟨o2, ho2⟩ : ∃ o2, peekM s b1 = o2 := ⟨_, rfl⟩
    have k2 := next_is w4 g s b1 o2 ho2 HC4.out.rdr (by omega)
    have HPK2 := Lib.hid ((peek_congr (s := s) (b := b1) (c := rr.1) HBE.out.1 HBE.out.2).symm.trans ho2)
    have HO2 := Lib.hid ho2
    clear ho2
    go_wp2_with fail
    refine k2.mono ?_
    rintro e w5 ⟨rfl, hb5⟩
    have HC5 := Lib.hid (HC4.out.below hb5)
    have HU5 := Lib.hid (HU4.out.below hb5)
    have HP5 : Hid (Prt w w5 kv ab cs ra (b1.err = 0)) := Lib.hid (HPR.out.below hb5)
    clear k2 hb5 HC4 HU4 HPR
    obtain ⟨PB, hPB⟩ : ∃ PB, (match o2 with | none => false | some c => postB c) = PB := ⟨_, rfl⟩
    have HPB := Lib.hid hPB
    clear hPB
    go_upto_region 7 with fail
    go_cut [47] from 11 to 68 (fun v wx => v = .bool PB ∧ wx = w5)
    case first =>
     rcases o2 with _ | c2
     ·simp only [Option.getD_none, Option.isSome_none]
      go_wp2
      go_meet
      exact ⟨by rw [← HPB.out], rfl⟩
     ·simp only [Option.getD_some, Option.isSome_some]
      by_cases g1 : c2 = 42
      ·subst g1
       go_wp2
       go_meet
       exact ⟨by rw [← HPB.out]; rfl, rfl⟩
      ·have g1b : ((c2 : Int) == 42) = false := by rw [beq_eq_false_iff_ne]; omega
       by_cases g2 : c2 = 43
       ·subst g2
        go_wp2
        go_meet
        exact ⟨by rw [← HPB.out]; rfl, rfl⟩
       ·have g2b : ((c2 : Int) == 43) = false := by rw [beq_eq_false_iff_ne]; omega
        by_cases g3 : c2 = 63
        ·subst g3
         go_wp2
         go_meet
         exact ⟨by rw [← HPB.out]; rfl, rfl⟩
        ·have g3b : ((c2 : Int) == 63) = false := by rw [beq_eq_false_iff_ne]; omega
         go_wp2
         go_meet
         exact ⟨by rw [← HPB.out]; simp [postB, g1, g2, g3], rfl⟩
    case rest =>
    obtain ⟨rfl, rfl⟩ := hcut
    go_upto_if 47 with fail
    go_cut [] from 11 to 68 (fun wx => ∃ (cs2 : List Value) (b3 : Bs), b3.err = t.1.err ∧ (b3.err = 0 → b3.pos = t.1.pos) ∧ b3.pos ≤ s.size + 12 - d ∧ cs2.length = 258 ∧ Hid (Clr w wx g s b3 (nodeC 2 noB kv)) ∧ Hid (Kq w w3 wx ab) ∧ Hid (Prt w wx kv ab cs2 ta (b3.err = 0)))
    case first =>
     cases PB with
     | false =>
      have hno : ∀ c, peekM s rr.1 = some c → postB c = false := fun c h => by
       rw [HPK2.out] at h
       subst h
       exact HPB.out
      obtain ⟨e1, e2⟩ := HTN.out hno
      go_wp2
      go_meet
      refine ⟨cs, b1, ?_, ?_, hbp1, hcl, HC5, HU5, ?_⟩
      ·rw [e1]; exact HBE.out.1
      ·rw [e1]; exact HBE.out.2
      ·rw [e2]; exact HP5
     | true =>
      rcases o2 with _ | c2
      ·exact absurd HPB.out (by simp)
      ·have hPB := HPB.out
       dsimp only at hPB
       obtain ⟨e1, e2⟩ := HTY.out c2 HPK2.out hPB
       obtain ⟨hb10, hb1s, -⟩ := peekM_some HO2.out
       have HB1P := Lib.hid (HBE.out.2 hb10)
       have c1 := HC5.out.rdr.c1
       have f1 := there_free HC5.out.rdr.th 1 (by omega)
       have HTA2 : Hid (ta = if c2 = 42 then .star ra else if c2 = 43 then .plus ra else if c2 = 63 then .opt ra else ra) := Lib.hid (HTA.out.symm.trans (timesR_at HPK2.out))
       have hp3 : c2 = 42 ∨ c2 = 43 ∨ c2 = 63 := by simp only [postB, Bool.or_eq_true, decide_eq_true_eq] at hPB; omega
       have HE1 : Hid ((stepM b1).err = t.1.err ∧ (stepM b1).pos = t.1.pos) := Lib.hid ⟨by rw [e2]; exact HBE.out.1, by rw [e1]; simp only [stepM]; rw [HB1P.out]⟩
       clear hPB e1 e2
       go_upto_region 9 with fail
       refine wp_forget2 (fun W => Clr w W g s (stepM b1) (nodeC 2 noB kv) ∧ Kq w w3 W ab ∧ Prt w W kv ab cs ra (b1.err = 0)) ⟨HC5.out.step, HU5.out.kr (Kr.set g _ 1 _) HC5.out.gl, HP5.out.kr (Kr.set g _ 1 _) HC5.out.gl⟩ (fun w6 hw6 => ?_)
       have HC6 := Lib.hid hw6.1
       have HU6 := Lib.hid hw6.2.1
       have HP6 := Lib.hid hw6.2.2
       clear hw6 c1 f1 HC5 HU5 HP5 HTY HTN
       have HTH : Hid ((w6.alloc (.cells cs.toArray 62)).there ab 0 258) := Lib.hid (HP6.out.nd.later (alloc_below w6 (.cells cs.toArray 62))).th
       have hab := HP6.out.lo
       rcases hp3 with rfl | rfl | rfl
       ·have HTA3 : Hid (ta = Re.star ra) := Lib.hid (HTA2.out.trans rfl)
        go_upto_region 14 with fail
        go_wp2_with (first
         | ((with_reducible refine wpList_loadN rfl _ rfl _ rfl ab 0 ?hx cs ?hc hcl ?_); (case hx => rfl); (case hc => exact HP6.out.nd.at_))
         | ((with_reducible refine wpList_buildSlice rfl 60 62 1 _ rfl cs.toArray i0 (.agg (zeroN 0)) Tryz.underlying60 hi hz0 ?hs ?hp ?hf ?_); (case hs => rw [hz1]; decide); (case hp => rw [hz1]; decide); (case hf => rw [hz1]; exact fill_one _ _ cs hcl rfl))
         | ((with_reducible refine wpList_buildN rfl _ rfl _ rfl (nodeC 3 noB (.slice (some ⟨w6.heap.size, 0, none⟩) 1 1)).toArray ?hf ?_); (case hf => exact built_kids _ _ _ _ _ _ _ rfl rfl))
         | ((with_reducible refine wpList_storeN rfl _ _ rfl _ rfl ab 0 (nodeC 3 noB (.slice (some ⟨w6.heap.size, 0, none⟩) 1 1)) ?hx ?hy ?ht (nodeC_len _ _ _) (nodeC_one _ _ _ rfl) ?_); (case hx => rfl); (case hy => rfl); (case ht => exact HTH.out)))
        go_meet
        refine ⟨nodeC 3 noB (.slice (some ⟨w6.heap.size, 0, none⟩) 1 1), stepM b1, HE1.out.1, fun _ => HE1.out.2, by rw [HE1.out.2]; exact hgtq, nodeC_len _ _ _, ?_, ?_, ?_⟩
        ·exact Lib.hid (by
          have h1 := HC6.out.below (alloc_below w6 (.cells cs.toArray 62))
          have hgl := h1.gl
          exact ⟨h1.rdr.kept (by rw [size_setCells]; exact Nat.le_refl _) (heap_setCells _ _ _ (by omega) _ _), h1.nd.keep (by rw [size_setCells]; exact Nat.le_refl _) (heap_setCells _ _ _ (by omega) _ _), there_kept h1.res (heap_setCells _ _ _ (by omega) _ _), h1.kr.news _ (by omega) _ _, h1.gl⟩)
        ·exact Lib.hid ((HU6.out.below (alloc_below w6 (.cells cs.toArray 62))).puts _)
        ·rw [HTA3.out]
         exact Lib.hid ((HP6.out.wrap 3 62 (fun q hq => by have h1 := (ownsRow_at HU3.out.own q hq).2; have h2 := HU6.out.eq; have h3 := HU6.out.le; omega) (fun W P r h1 h2 => .star h1 h2)).keep (Nat.le_refl _) (fun _ _ _ => rfl) (fun h0 => h0))
       ·have HTA3 : Hid (ta = Re.plus ra) := Lib.hid (HTA2.out.trans rfl)
        go_upto_region 14 with fail
        go_wp2_with (first
         | ((with_reducible refine wpList_loadN rfl _ rfl _ rfl ab 0 ?hx cs ?hc hcl ?_); (case hx => rfl); (case hc => exact HP6.out.nd.at_))
         | ((with_reducible refine wpList_buildSlice rfl 60 62 1 _ rfl cs.toArray i0 (.agg (zeroN 0)) Tryz.underlying60 hi hz0 ?hs ?hp ?hf ?_); (case hs => rw [hz1]; decide); (case hp => rw [hz1]; decide); (case hf => rw [hz1]; exact fill_one _ _ cs hcl rfl))
         | ((with_reducible refine wpList_buildN rfl _ rfl _ rfl (nodeC 4 noB (.slice (some ⟨w6.heap.size, 0, none⟩) 1 1)).toArray ?hf ?_); (case hf => exact built_kids _ _ _ _ _ _ _ rfl rfl))
         | ((with_reducible refine wpList_storeN rfl _ _ rfl _ rfl ab 0 (nodeC 4 noB (.slice (some ⟨w6.heap.size, 0, none⟩) 1 1)) ?hx ?hy ?ht (nodeC_len _ _ _) (nodeC_one _ _ _ rfl) ?_); (case hx => rfl); (case hy => rfl); (case ht => exact HTH.out)))
        go_meet
        refine ⟨nodeC 4 noB (.slice (some ⟨w6.heap.size, 0, none⟩) 1 1), stepM b1, HE1.out.1, fun _ => HE1.out.2, by rw [HE1.out.2]; exact hgtq, nodeC_len _ _ _, ?_, ?_, ?_⟩
        ·exact Lib.hid (by
          have h1 := HC6.out.below (alloc_below w6 (.cells cs.toArray 62))
          have hgl := h1.gl
          exact ⟨h1.rdr.kept (by rw [size_setCells]; exact Nat.le_refl _) (heap_setCells _ _ _ (by omega) _ _), h1.nd.keep (by rw [size_setCells]; exact Nat.le_refl _) (heap_setCells _ _ _ (by omega) _ _), there_kept h1.res (heap_setCells _ _ _ (by omega) _ _), h1.kr.news _ (by omega) _ _, h1.gl⟩)
        ·exact Lib.hid ((HU6.out.below (alloc_below w6 (.cells cs.toArray 62))).puts _)
        ·rw [HTA3.out]
         exact Lib.hid ((HP6.out.wrap 4 62 (fun q hq => by have h1 := (ownsRow_at HU3.out.own q hq).2; have h2 := HU6.out.eq; have h3 := HU6.out.le; omega) (fun W P r h1 h2 => .plus h1 h2)).keep (Nat.le_refl _) (fun _ _ _ => rfl) (fun h0 => h0))
       ·have HTA3 : Hid (ta = Re.opt ra) := Lib.hid (HTA2.out.trans rfl)
        go_upto_region 14 with fail
        go_wp2_with (first
         | ((with_reducible refine wpList_loadN rfl _ rfl _ rfl ab 0 ?hx cs ?hc hcl ?_); (case hx => rfl); (case hc => exact HP6.out.nd.at_))
         | ((with_reducible refine wpList_buildSlice rfl 60 62 1 _ rfl cs.toArray i0 (.agg (zeroN 0)) Tryz.underlying60 hi hz0 ?hs ?hp ?hf ?_); (case hs => rw [hz1]; decide); (case hp => rw [hz1]; decide); (case hf => rw [hz1]; exact fill_one _ _ cs hcl rfl))
         | ((with_reducible refine wpList_buildN rfl _ rfl _ rfl (nodeC 5 noB (.slice (some ⟨w6.heap.size, 0, none⟩) 1 1)).toArray ?hf ?_); (case hf => exact built_kids _ _ _ _ _ _ _ rfl rfl))
         | ((with_reducible refine wpList_storeN rfl _ _ rfl _ rfl ab 0 (nodeC 5 noB (.slice (some ⟨w6.heap.size, 0, none⟩) 1 1)) ?hx ?hy ?ht (nodeC_len _ _ _) (nodeC_one _ _ _ rfl) ?_); (case hx => rfl); (case hy => rfl); (case ht => exact HTH.out)))
        go_meet
        refine ⟨nodeC 5 noB (.slice (some ⟨w6.heap.size, 0, none⟩) 1 1), stepM b1, HE1.out.1, fun _ => HE1.out.2, by rw [HE1.out.2]; exact hgtq, nodeC_len _ _ _, ?_, ?_, ?_⟩
        ·exact Lib.hid (by
          have h1 := HC6.out.below (alloc_below w6 (.cells cs.toArray 62))
          have hgl := h1.gl
          exact ⟨h1.rdr.kept (by rw [size_setCells]; exact Nat.le_refl _) (heap_setCells _ _ _ (by omega) _ _), h1.nd.keep (by rw [size_setCells]; exact Nat.le_refl _) (heap_setCells _ _ _ (by omega) _ _), there_kept h1.res (heap_setCells _ _ _ (by omega) _ _), h1.kr.news _ (by omega) _ _, h1.gl⟩)
        ·exact Lib.hid ((HU6.out.below (alloc_below w6 (.cells cs.toArray 62))).puts _)
        ·rw [HTA3.out]
         exact Lib.hid ((HP6.out.wrap 5 62 (fun q hq => by have h1 := (ownsRow_at HU3.out.own q hq).2; have h2 := HU6.out.eq; have h3 := HU6.out.le; omega) (fun W P r h1 h2 => .opt h1 h2)).keep (Nat.le_refl _) (fun _ _ _ => rfl) (fun h0 => h0))
    case rest =>
     obtain ⟨cs2, b3, h1, h2, h3, hcl2, HC6, HQ6, HP6⟩ := hcut
     have HU6 := Lib.hid (HQ6.out.un HU3.out)
     clear HQ6
     have c257 := HC6.out.nd.cell (nodeC_kids 2 noB kv)
     have HB7 := Lib.hid (alloc_below wc (.cells cs2.toArray 62))
     have HC7 := Lib.hid (HC6.out.below HB7.out)
     have HU7 := Lib.hid (HU6.out.below HB7.out)
     have HP7 := Lib.hid (HP6.out.below HB7.out)
     have HRD := Lib.hid (rd_node (w := wc) hcl2 62)
     have HBS : Hid (w.heap.size + 2 ≤ (wc.alloc (.cells cs2.toArray 62)).heap.size) := Lib.hid (by have := HC7.out.nd.lt; omega)
     have hl200 : l.length ≤ 200 := by omega
     clear HC5 HU5 HP5
     go_wp2_with (first
      | ((with_reducible refine wpList_loadN rfl _ rfl _ rfl ab 0 ?hx cs2 ?hc hcl2 ?_); (case hx => rfl); (case hc => exact HP6.out.nd.at_))
      | ((with_reducible refine wpList_buildSlice rfl 60 62 1 _ rfl cs2.toArray i0 (.agg (zeroN 0)) Tryz.underlying60 hi hz0 ?hs ?hp ?hf ?_); (case hs => rw [hz1]; decide); (case hp => rw [hz1]; decide); (case hf => rw [hz1]; exact fill_one _ _ cs2 hcl2 rfl))
      | (at_builtin; (refine wpList_append_rd2 rfl (.tmp 64) (.tmp 66) 60 rfl (w.heap.size + 2) 62 i0 (.agg (zeroN 0)) 258 288 Tryz.underlying60 hi hz0 hz1 hz2 (zeroN_size 0) (by decide) kv l.length l.flatten rfl HU7.out.own _ 1 cs2 rfl HRD.out HP6.out.one (by unfold maxLen; omega) (by omega) HBS.out ?_); intro kv' w8 hown hgrow hor; obtain ⟨ka, kc, rfl, -, -⟩ := RdAt.shape (RdAt.own hown); have hc8 := HC7.out.grown hgrow (fun q hq => (ownsRow_at HU7.out.own q hq).1); have c8 := hc8.nd.cell (nodeC_kids 2 noB kv); have f8 := hc8.nd.free (j := 257) (by omega); have HC8 := Lib.hid hc8; have HU8 := Lib.hid (HU7.out.app (ok' := t.1.err = 0) (b := ta) hown hgrow hor ⟨hcl2, HP6.out.one⟩ (fun _ => trivial) (fun h0 => (HP7.out.tree (h1.trans h0)).mono (fun q hq => ⟨hq.1, hq.2.1, hq.2.2.1⟩)) (fun W P h1 h2 => .r1 h1 h2)); clear hc8 hown hgrow hor))
     have HC9 : Hid (Clr w (w8.setCell ⟨w.heap.size + 1, 257, none⟩ (.slice ka (l.length + 1) kc)) g s b3 (nodeC 2 noB (.slice ka (l.length + 1) kc))) := Lib.hid (by
      have := HC8.out.put 257 (.slice ka (l.length + 1) kc) (by omega)
      rwa [nodeC_setK] at this)
     (try simp only [Act.put, List.setIfInBounds_toArray, List.set_cons_zero, List.set_cons_succ])
     go_roundw
     case rel => exact ⟨k, freeM t.1 p.2 t.2.1, (p.1, t.2.2), l ++ [cs2], .cat acc ta, (.slice ka (l.length + 1) kc), b3, by omega, hgtq, by simp only [fuelM, freeM]; omega, by rw [List.length_append]; simp only [freeM, List.length_singleton]; omega, h1, fun h0 => h2 (h1.trans h0), h3, HR2, HA2, HC9, Lib.hid (HU8.out.put _ _ _ (by omega))⟩
     case measure =>
      rw [HC9.out.rdr.meas, HMS.out, if_pos hbx0]
      split
      ·rename_i h0; have := h2 h0; omega
      ·omega
end Go.Proofs.YtgbapkechngnmaaGreat
/- The reference's atom: a contract (with either's for less fuel). -/
namespace Go.Proofs.YtgbapkechngnmaaGreat
open Go.RowKit
structure Ca (w0 w : World) (nb g : Nat) (s : ByteArray) (b : Bs) (cs : List Value) : Prop where
 rdr : RdrAt w g s b
 nd : NdAt w nb cs
 res : w.there w0.heap.size 0 258
 kr : Kr g w0 w
 gl : g < w0.heap.size
 nb : w0.heap.size < nb
theorem Ca.below {w0 w w' : World} {nb g : Nat} {s : ByteArray} {b : Bs} {cs : List Value} (h : Ca w0 w nb g s b cs) (hb : Below w.heap.size w w') : Ca w0 w' nb g s b cs :=
 ⟨h.rdr.below hb, h.nd.later hb, there_later h.res hb (by have := h.nd.lt; have := h.nb; omega), h.kr.trans (Kr.of_below hb), h.gl, h.nb⟩
theorem Ca.stp {w0 w w' : World} {nb g : Nat} {s : ByteArray} {b b' : Bs} {cs : List Value} (h : Ca w0 w nb g s b cs) (hr : RdrAt w' g s b') (hk : Kr g w w') : Ca w0 w' nb g s b' cs :=
 ⟨hr, h.nd.kr hk (by have := h.gl; have := h.nb; omega), there_kept h.res (hk.block _ (by have := h.nd.lt; have := h.nb; omega) (by have := h.gl; omega)), h.kr.trans hk, h.gl, h.nb⟩
theorem Ca.step {w0 w : World} {nb g : Nat} {s : ByteArray} {b : Bs} {cs : List Value} (h : Ca w0 w nb g s b cs) : Ca w0 (w.setCell ⟨g, 1, none⟩ (.int .i64 ((b.pos : Int) + 1))) nb g s (stepM b) cs :=
 h.stp h.rdr.step (Kr.set g w 1 _)
theorem Ca.put {w0 w : World} {nb g : Nat} {s : ByteArray} {b : Bs} {cs : List Value} (h : Ca w0 w nb g s b cs) (j : Nat) (v : Value) (hj : j < 258) : Ca w0 (w.setCell ⟨nb, j, none⟩ v) nb g s b (cs.set j v) :=
 ⟨h.rdr.kept (by simp) (Below.heap_setCell w _ v g (by show g ≠ nb; have := h.gl; have := h.nb; omega)), h.nd.set j v hj, rthere_set h.res _ _ _, h.kr.new _ _ _ (by have := h.nb; omega), h.gl, h.nb⟩
theorem Ca.all {w0 w : World} {nb g : Nat} {s : ByteArray} {b : Bs} {cs : List Value} (h : Ca w0 w nb g s b cs) (cs' : List Value) (hl : cs'.length = 258) : Ca w0 (w.setCells nb 0 cs') nb g s b cs' :=
 ⟨h.rdr.kept (by rw [size_setCells]; exact Nat.le_refl _) (heap_setCells _ _ _ (by have := h.gl; have := h.nb; omega) _ _), h.nd.stored hl, World.there_setCells h.res _ _ _, h.kr.news _ (by have := h.nb; omega) _ _, h.gl, h.nb⟩
theorem Ca.done {w0 w : World} {nb g : Nat} {s : ByteArray} {b : Bs} {cs : List Value} (h : Ca w0 w nb g s b cs) (vs : List Value) : RdrAt (w.setCells w0.heap.size 0 vs) g s b ∧ Kr g w0 (w.setCells w0.heap.size 0 vs) :=
 ⟨h.rdr.kept (by rw [size_setCells]; exact Nat.le_refl _) (heap_setCells _ _ _ (by have := h.gl; omega) _ _), h.kr.news _ (Nat.le_refl _) _ _⟩
theorem Ca.new {w0 w : World} {g : Nat} {s : ByteArray} {b : Bs} (h : RdrAt w g s b) (hr : w.there w0.heap.size 0 258) (hk : Kr g w0 w) (hg : g < w0.heap.size) (hl : w0.heap.size < w.heap.size) (t : TypeId) : Ca w0 ((w.alloc (.cells (zeroN 0) t)).setCells w.heap.size 0 (nodeC 0 noB nilS)) w.heap.size g s b (nodeC 0 noB nilS) := by
 have hb := alloc_below w (.cells (zeroN 0) t)
 refine ⟨(h.below hb).kept (by rw [size_setCells]; exact Nat.le_refl _) (heap_setCells _ _ _ (by omega) _ _), (NdAt.new w 0 t).stored (nodeC_len _ _ _), there_kept (there_later hr hb hl) (heap_setCells _ _ _ (by omega) _ _), (hk.trans (Kr.of_below hb)).news _ (by omega) _ _, hg, hl⟩
theorem oneS_eq (c : Nat) : (fun x => if x = c then true else noB x) = oneS c := by
 funext x
 unfold oneS addS noS noB
 by_cases h : x = c
 ·subst h; rw [if_pos rfl, decide_eq_true (Nat.le_refl x)]; rfl
 ·rw [if_neg h]
  by_cases h2 : c ≤ x
  ·rw [decide_eq_true h2, decide_eq_false (show ¬ x ≤ c by omega)]; rfl
  ·rw [decide_eq_false h2]; rfl
theorem dot_all (kv : Value) : nodeC 0 (addU noB 0 256) kv = nodeC 0 (turnS noS) kv := nodeC_congr (fun c hc => by unfold addU turnS noB noS; rw [decide_eq_true (Nat.zero_le c), decide_eq_true hc]; rfl) kv
theorem Back.mk1 {w w' : World} {g d : Nat} {s : ByteArray} {b b' : Bs} {S T : Nat → Bool} (hr : RdrAt w' g s b') (he : b'.err = b.err) (hp : b'.pos ≤ s.size + 12 - d) (ht : b'.err = 0 → b'.pos = b.pos ∧ nodeC 0 S nilS = nodeC 0 T nilS) (hk : Kr g w w') : Back w w' g s d (oneM b T) (.set T) (nodeC 0 S nilS) b' :=
 ⟨nodeC_len _ _ _, oneN _ _, hr, he, hp, fun h0 => ⟨(ht h0).1, by rw [(ht h0).2]; exact .set T nilS⟩, hk⟩
set_option maxHeartbeats 12800000 in
set_option maxRecDepth 100000 in
theorem atom_is (n : Nat) (heither : NdK 68 .either n) : NdK 113 .atom (n + 1) := by
 intro m hm w g s d b h he hd hp hat hs hf
 simp only [fuelM] at hf
 obtain ⟨m, rfl⟩ : ∃ m', m = m' + 1 := ⟨m - 1, by omega⟩
 obtain ⟨hps, hn124, hn41⟩ := hat rfl
 obtain ⟨r, hr⟩ : ∃ r, runM s (m + 1) .atom d b = r := ⟨_, rfl⟩
 obtain ⟨a, ha⟩ : ∃ a, reM s (m + 1) .atom .no d b = a := ⟨_, rfl⟩
 rw [hr, ha]
 rw [runM] at hr
 rw [reM] at ha
 (try dsimp only at hr ha)
 have hpk : peekM s b = some (byteM s b.pos) := rpeek_of he hps
 have hcl := byteM_lt s b.pos
 obtain ⟨c, hc⟩ : ∃ c, byteM s b.pos = c := ⟨_, rfl⟩
 rw [hc] at hr ha hpk hn124 hn41 hcl
 have HR := Lib.hid hr
 have HA := Lib.hid ha
 have HE := Lib.hid heither
 have hb1 : b.pos + 1 ≤ (stepM b).pos := Nat.le_refl _
 have hb1q : (stepM b).pos ≤ s.size := hps
 have hb1e : (stepM b).err = 0 := he
 have hgl := h.lt
 have hbx := alloc_below w (.cells (zeroN 0) 62)
 have hrx := h.below hbx
 have hth := there_new w 0 62
 have hsx : (w.alloc (.cells (zeroN 0) 62)).heap.size = w.heap.size + 1 := World.size_alloc _ _
 have kf := fun W b (h : RdrAt W g s b) => rfail_is W g s b 2 h
 have kf3 := fun W b (h : RdrAt W g s b) => rfail_is W g s b 3 h
 have KF := Lib.hid kf
 have KF3 := Lib.hid kf3
 have k1 := next_is (w.alloc (.cells (zeroN 0) 62)) g s b _ hpk hrx (by omega)
 have HB0 := Lib.hid hrx
 have HT0 := Lib.hid hth
 have HK0 := Lib.hid (Kr.of_below (g := g) hbx)
 clear hr ha heither hc h hat hpk hbx hrx hth kf kf3
 go_enter Tryz.func113, Tryz.ntmps113
 go_upto_region 1 with (with_reducible refine wpList_allocN rfl rfl _ rfl w.heap.size rfl ?_)
 go_wp2_with fail
 refine k1.mono ?_
 rintro e w1 ⟨rfl, hb⟩
 have c1 := (HB0.out.below hb).c1
 have f1 := there_free (HB0.out.below hb).th 1 (by omega)
 have h2 := (HB0.out.below hb).step
 have h2t := rthere_set (there_later HT0.out hb (by omega)) g 1 (.int .i64 ((b.pos : Int) + 1))
 have h2k := (HK0.out.trans (Kr.of_below (g := g) hb)).trans (Kr.set g w1 1 (.int .i64 ((b.pos : Int) + 1)))
 have h2s : w.heap.size < (w1.setCell ⟨g, 1, none⟩ (.int .i64 ((b.pos : Int) + 1))).heap.size := by rw [World.size_setCell]; have := hb.size; omega
 clear k1 hb HB0 HT0 HK0 hsx
 go_upto_region 3 with fail
 change Code.wp _ _ _ _ (w1.setCell ⟨g, 1, none⟩ (.int .i64 ((b.pos : Int) + 1)))
 clear c1 f1
 obtain ⟨b1, hb1x⟩ : ∃ b1, stepM b = b1 := ⟨_, rfl⟩
 rw [hb1x] at h2 hb1 hb1q hb1e HR HA
 generalize (w1.setCell ⟨g, 1, none⟩ (.int .i64 ((b.pos : Int) + 1))) = w2 at *
 have hca := Ca.new h2 h2t h2k hgl h2s 62
 have HTH : Hid ((w2.alloc (.cells (zeroN 0) 62)).there w2.heap.size 0 258) := Lib.hid (there_new w2 0 62)
 have HC := Lib.hid hca
 clear hca h2 h2t h2k hb1x
 go_upto_region 4 with (first
  | (with_reducible refine wpList_allocN rfl rfl _ rfl w2.heap.size rfl ?_)
  | ((with_reducible refine wpList_buildN rfl _ rfl _ rfl (zeroN 0) ?hf ?_); (case hf => exact node_built0))
  | ((with_reducible refine wpList_storeN rfl _ _ rfl _ rfl w2.heap.size 0 (nodeC 0 noB nilS) ?hx ?hy ?ht (nodeC_len _ _ _) (oneN _ _) ?_); (case hx => rfl); (case hy => rfl); (case ht => exact HTH.out)))
 clear HTH
 generalize w2.heap.size = nb at *
 refine wp_forget2 (fun W => Ca w W nb g s b1 (nodeC 0 noB nilS)) HC.out (fun w3 hw3 => ?_)
 clear HC
 have HC := Lib.hid hw3
 clear hw3
 by_cases e40 : c = 40
 ·subst e40
  have hr := HR.out
  have ha := HA.out
  rw [if_pos rfl] at hr ha
  by_cases ed : d = 8
  ·subst ed
   rw [if_pos rfl] at hr ha
   subst hr ha
   have kq := KF3.out _ _ HC.out.rdr
   go_wp2_with fail
   refine kq.mono ?_
   rintro e w4 ⟨rfl, hB, hs4⟩
   have H4 := Lib.hid (HC.out.stp hB hs4)
   clear kq hB hs4
   go_wp2_with (first
   | ((with_reducible refine wpList_loadN rfl _ rfl _ rfl nb 0 ?hx (nodeC 0 (noB) nilS) ?hc (nodeC_len _ _ _) ?_); (case hx => rfl); (case hc => exact H4.out.nd.at_))
   | ((with_reducible refine wpList_storeN rfl _ _ rfl _ rfl w.heap.size 0 (nodeC 0 (noB) nilS) ?hx ?hy ?ht (nodeC_len _ _ _) (oneN _ _) ?_); (case hx => rfl); (case hy => rfl); (case ht => exact H4.out.res)))
   refine bodyPost_ret (results_agg1 rfl _ _ w.heap.size (nodeC 0 (noB) nilS) (.struct _) rfl (World.rangeAt_setCells_same _ _ _ _ (by rw [show (nodeC 0 (noB) nilS).length = 258 from nodeC_len _ _ _]; exact H4.out.res)) Tryz.underlying62 rfl (by rw [show (nodeC 0 (noB) nilS).length = 258 from nodeC_len _ _ _]; exact node_size)) rfl ?_
   exact ⟨_, _, rfl, Back.mk1 (H4.out.done _).1 rfl (by rw [failM_pos]; omega) (fun h0 => absurd h0 (failM_err (by decide))) (H4.out.done _).2⟩
  ·rw [if_neg ed] at hr ha
   have hd8 : (d : Int) < 8 := by omega
   have hwd : IntKind.i64.wrap ((d : Int) + 1) = (((d + 1 : Nat)) : Int) := by rw [IntWalk.i64_in _ ⟨by omega, by omega⟩]; rfl
   have hke := HE.out m (by omega) w3 g s (d + 1) b1 HC.out.rdr hb1e (by omega) (by omega) (fun h => by cases h) hs (by simp only [fuelM]; omega)
   obtain ⟨rr, hrr⟩ : ∃ rr, runM s m .either (d + 1) b1 = rr := ⟨_, rfl⟩
   rw [hrr] at hr hke
   rw [ha] at hke
   clear hrr
   go_wp2_with fail
   refine hke.mono ?_
   rintro e w4 ⟨cs, b', rfl, hbk⟩
   have H4 := Lib.hid (HC.out.stp hbk.rdr hbk.kr)
   have HBK := Lib.hid hbk
   have hnb3 := HC.out.nd.lt
   have hnbw := HC.out.nb
   have hcl2 := hbk.len
   clear hke hbk
   go_upto_region 10 with ((with_reducible refine wpList_storeN rfl _ _ rfl _ rfl nb 0 cs ?hx ?hy ?ht HBK.out.len HBK.out.one ?_); (case hx => rfl); (case hy => rfl); (case ht => exact H4.out.nd.th))
   have hc5 := H4.out.all cs HBK.out.len
   have ht5 : b'.err = 0 → NA (w4.setCells nb 0 cs) (fun q => w3.heap.size ≤ q ∧ q < w4.heap.size) 0 [cs] a := fun h0 => ((HBK.out.tree h0).2).keep (by rw [size_setCells]; exact Nat.le_refl _) (fun q hq _ => heap_setCells _ _ _ (by omega) _ _)
   have hs5 : (w4.setCells nb 0 cs).heap.size = w4.heap.size := size_setCells _ _ _ _
   have HC5 := Lib.hid hc5
   have HT5 := Lib.hid ht5
   have HBE : Hid (b'.err = rr.1.err ∧ (b'.err = 0 → b'.pos = rr.1.pos) ∧ b'.pos ≤ s.size + 12 - (d + 1)) := Lib.hid ⟨HBK.out.err, fun h0 => (HBK.out.tree h0).1, HBK.out.pos⟩
   have HON := Lib.hid HBK.out.one
   have hbp := HBK.out.pos
   clear hc5 ht5 HBK H4 HC
   generalize (w4.setCells nb 0 cs) = w5 at *
   obtain ⟨o, ho⟩ : ∃ o, peekM s b' = o := ⟨_, rfl⟩
   have k2 := next_is w5 g s b' o ho HC5.out.rdr (by omega)
   have HPK := Lib.hid ((peek_congr (s := s) (b := b') (c := rr.1) HBE.out.1 HBE.out.2.1).symm.trans ho)
   have HO := Lib.hid ho
   clear ho
   go_wp2_with fail
   refine k2.mono ?_
   rintro e w6 ⟨rfl, hb6⟩
   have HC6 := Lib.hid (HC5.out.below hb6)
   have HT6 : Hid (b'.err = 0 → NA w6 (fun q => w.heap.size < q ∧ q < w6.heap.size ∧ q ≠ nb ∧ q ≠ g) 0 [cs] a) := Lib.hid (fun h0 => ((HT5.out h0).later hb6).mono (by
    rintro q ⟨h1, h2⟩
    have := hb6.size
    exact ⟨by omega, by omega, by omega, by omega⟩))
   clear k2 hb6 HC5 HT5
   have HRE : Hid (r.1 = closeM s rr.1) := Lib.hid (by rw [← hr])
   clear hr
   obtain ⟨B, hB⟩ : ∃ B, decide (o ≠ some 41) = B := ⟨_, rfl⟩
   go_upto_region 11 with fail
   go_cut [48] from 43 (fun v wx => v = .bool B ∧ wx = w6)
   case first =>
    rcases o with _ | c2
    ·go_wp2
     go_meet
     exact ⟨by rw [← hB]; rfl, rfl⟩
    ·by_cases g1 : c2 = 41
     ·subst g1
      go_wp2
      go_meet
      exact ⟨by rw [← hB]; rfl, rfl⟩
     ·have g1b : ((c2 : Int) != 41) = true := by simp; omega
      go_wp2
      go_meet
      exact ⟨by rw [← hB, decide_eq_true (by simpa using g1)], rfl⟩
   case rest =>
   obtain ⟨rfl, rfl⟩ := hcut
   go_upto_if 48 with fail
   go_cut [] from 43 (fun wx => ∃ bz : Bs, bz.err = (closeM s rr.1).err ∧ bz.pos + 1 ≤ s.size + 12 - d ∧ (bz.err = 0 → bz.pos = rr.1.pos) ∧ Hid (Ca w wx nb g s bz cs) ∧ Hid (bz.err = 0 → NA wx (fun q => w.heap.size < q ∧ q < wx.heap.size ∧ q ≠ nb ∧ q ≠ g) 0 [cs] a))
   case first =>
    cases B with
    | true =>
     have hne : ¬ peekM s rr.1 = some 41 := by rw [HPK.out]; exact of_decide_eq_true hB
     have kq := KF.out _ _ HC6.out.rdr
     clear hB
     go_wp2_with fail
     refine kq.mono ?_
     rintro e w7 ⟨rfl, hB7, hs7⟩
     have H7 := Lib.hid (HC6.out.stp hB7 hs7)
     clear kq hB7 hs7
     go_wp2
     go_meet
     refine ⟨failM b' 2, ?_, ?_, fun h0 => absurd h0 (failM_err (by decide)), H7, Lib.hid (fun h0 => absurd h0 (failM_err (by decide)))⟩
     ·unfold closeM
      rw [if_neg hne]
      show _ = (failM rr.1 2).err
      unfold failM
      rw [HBE.out.1]
      split <;> first | rfl | exact HBE.out.1
     ·rw [failM_pos]; have := HBE.out.2.2; omega
    | false =>
     have heq : peekM s rr.1 = some 41 := by rw [HPK.out]; have := of_decide_eq_false hB; simpa using this
     clear hB
     go_wp2
     go_meet
     refine ⟨b', ?_, by have := HBE.out.2.2; omega, HBE.out.2.1, HC6, HT6⟩
     unfold closeM
     rw [if_pos heq]
     exact HBE.out.1
   case rest =>
   obtain ⟨bz, hz1, hz2, hz3, HC7, HT7⟩ := hcut
   clear HC6 HT6 hB
   have c1 := HC7.out.rdr.c1
   have f1 := there_free HC7.out.rdr.th 1 (by omega)
   have hgs := HC7.out.rdr.lt
   go_upto_region 14 with fail
   refine wp_forget2 (fun W => Ca w W nb g s (stepM bz) cs ∧ (bz.err = 0 → NA W (fun q => w.heap.size < q ∧ q < W.heap.size ∧ q ≠ nb ∧ q ≠ g) 0 [cs] a)) ⟨HC7.out.step, fun h0 => ((HT7.out h0).keep (by simp) (fun q hq _ => Below.heap_setCell _ _ _ q hq.2.2.2)).mono (fun q hq => ⟨hq.1, by simpa using hq.2.1, hq.2.2⟩)⟩ (fun w8 hw8 => ?_)
   have HC8 := Lib.hid hw8.1
   have HT8 := Lib.hid hw8.2
   clear hw8 HC7 HT7 c1 f1
   go_wp2_with (first
   | ((with_reducible refine wpList_loadN rfl _ rfl _ rfl nb 0 ?hx cs ?hc hcl2 ?_); (case hx => rfl); (case hc => exact HC8.out.nd.at_))
   | ((with_reducible refine wpList_storeN rfl _ _ rfl _ rfl w.heap.size 0 cs ?hx ?hy ?ht hcl2 HON.out ?_); (case hx => rfl); (case hy => rfl); (case ht => exact HC8.out.res)))
   refine bodyPost_ret (results_agg1 rfl _ _ w.heap.size cs (.struct _) rfl (World.rangeAt_setCells_same _ _ _ _ (by rw [show cs.length = 258 from hcl2]; exact HC8.out.res)) Tryz.underlying62 rfl (by rw [show cs.length = 258 from hcl2]; exact node_size)) rfl ?_
   refine ⟨cs, stepM bz, rfl, hcl2, HON.out, (HC8.out.done _).1, ?_, ?_, fun h0 => ⟨?_, ((HT8.out h0).keep (by rw [size_setCells]; exact Nat.le_refl _) (fun q hq _ => heap_setCells _ _ _ (by omega) _ _)).mono (fun q hq => ⟨by omega, by rw [size_setCells]; exact hq.2.1⟩)⟩, (HC8.out.done _).2⟩
   ·rw [HRE.out]; exact hz1
   ·simp only [stepM]; omega
   ·rw [HRE.out, closeM_pos]
    have := hz3 h0
    simp only [stepM]; omega
 ·have hr := HR.out
  have ha := HA.out
  rw [if_neg e40] at hr ha
  have e40b : ((c : Int) == 40) = false := by rw [beq_eq_false_iff_ne]; omega
  clear HR HA HE KF3
  by_cases e91 : c = 91
  ·subst e91
   rw [if_pos rfl] at hr ha
   subst hr ha
   have kc := rclass_is w3 g s b1 HC.out.rdr (by omega) (by omega)
   go_wp2_with fail
   refine kc.mono ?_
   rintro e w4 ⟨S', b', rfl, h1, h2, h3, h4, hk4⟩
   have H4 := Lib.hid (HC.out.stp h1 hk4)
   clear kc HC h1 hk4
   go_wp2_with (first
   | ((with_reducible refine wpList_loadN rfl _ rfl _ rfl nb 0 ?hx (nodeC 0 (S') nilS) ?hc (nodeC_len _ _ _) ?_); (case hx => rfl); (case hc => exact H4.out.nd.at_))
   | ((with_reducible refine wpList_storeN rfl _ _ rfl _ rfl w.heap.size 0 (nodeC 0 (S') nilS) ?hx ?hy ?ht (nodeC_len _ _ _) (oneN _ _) ?_); (case hx => rfl); (case hy => rfl); (case ht => exact H4.out.res)))
   refine bodyPost_ret (results_agg1 rfl _ _ w.heap.size (nodeC 0 (S') nilS) (.struct _) rfl (World.rangeAt_setCells_same _ _ _ _ (by rw [show (nodeC 0 (S') nilS).length = 258 from nodeC_len _ _ _]; exact H4.out.res)) Tryz.underlying62 rfl (by rw [show (nodeC 0 (S') nilS).length = 258 from nodeC_len _ _ _]; exact node_size)) rfl ?_
   exact ⟨_, b', rfl, Back.mk1 (H4.out.done _).1 h2 (by omega) h4 (H4.out.done _).2⟩
  rw [if_neg e91] at hr ha
  have e91b : ((c : Int) == 91) = false := by rw [beq_eq_false_iff_ne]; omega
  by_cases e46 : c = 46
  ·subst e46
   rw [if_pos rfl] at hr ha
   subst hr ha
   go_wp2
   go_loopw [10] (fun v wr => ∃ k : Nat, v = .int .i64 (k : Nat) ∧ k ≤ 256 ∧ Hid (Ca w wr nb g s b1 (nodeC 0 (addU noB 0 k) nilS))) (fun v _ => 257 - (intOf v).toNat)
   case atStart => exact ⟨0, rfl, by omega, Lib.hid (by rw [addU_start]; exact HC.out)⟩
   case round =>
    clear HC
    obtain ⟨k, rfl, hk, HT⟩ := hrel
    by_cases hk2 : k < 256
    ·have n1 := HT.out.nd.cell (nodeC_set 0 (addU noB 0 k) nilS k hk2)
     have f1 := HT.out.nd.free (j := 1 + k) (by omega)
     have hki0 : (0 : Int) ≤ (k : Int) := by omega
     have hki1 : (k : Int) < 256 := by omega
     go_wp2
     go_roundw
     case rel => exact ⟨k + 1, by go_num, by omega, Lib.hid (by
      have := HT.out.put (1 + k) (.bool true) (by omega)
      rw [nodeC_setB 0 _ _ k hk2, addU_succ (Nat.zero_le k)] at this
      exact this)⟩
     case measure => (simp [intOf]; try omega)
    ·obtain rfl : k = 256 := by omega
     go_wp2_with (first
   | ((with_reducible refine wpList_loadN rfl _ rfl _ rfl nb 0 ?hx (nodeC 0 (addU noB 0 256) nilS) ?hc (nodeC_len _ _ _) ?_); (case hx => rfl); (case hc => exact HT.out.nd.at_))
   | ((with_reducible refine wpList_storeN rfl _ _ rfl _ rfl w.heap.size 0 (nodeC 0 (addU noB 0 256) nilS) ?hx ?hy ?ht (nodeC_len _ _ _) (oneN _ _) ?_); (case hx => rfl); (case hy => rfl); (case ht => exact HT.out.res)))
     refine bodyPost_ret (results_agg1 rfl _ _ w.heap.size (nodeC 0 (addU noB 0 256) nilS) (.struct _) rfl (World.rangeAt_setCells_same _ _ _ _ (by rw [show (nodeC 0 (addU noB 0 256) nilS).length = 258 from nodeC_len _ _ _]; exact HT.out.res)) Tryz.underlying62 rfl (by rw [show (nodeC 0 (addU noB 0 256) nilS).length = 258 from nodeC_len _ _ _]; exact node_size)) rfl ?_
     exact ⟨_, b1, rfl, Back.mk1 (HT.out.done _).1 rfl (by omega) (fun _ => ⟨rfl, dot_all _⟩) (HT.out.done _).2⟩
  rw [if_neg e46] at hr ha
  have e46b : ((c : Int) == 46) = false := by rw [beq_eq_false_iff_ne]; omega
  by_cases e92 : c = 92
  ·subst e92
   rw [if_pos rfl] at hr ha
   obtain ⟨o, ho⟩ : ∃ o, peekM s b1 = o := ⟨_, rfl⟩
   have k2 := next_is w3 g s b1 o ho HC.out.rdr (by omega)
   rw [ho] at hr ha
   have hlt : ∀ x, o = some x → x < 256 := fun x hx => rpeek_lt (ho.trans hx)
   clear ho
   go_wp2_with fail
   refine k2.mono ?_
   rintro e w4 ⟨rfl, hb4⟩
   have H4 := Lib.hid (HC.out.below hb4)
   clear k2 hb4 HC
   rcases o with _ | x
   ·dsimp only at hr ha
    subst hr ha
    have kq := KF.out _ _ H4.out.rdr
    go_wp2_with fail
    refine kq.mono ?_
    rintro e w5 ⟨rfl, hB5, hs5⟩
    have H5 := Lib.hid (H4.out.stp hB5 hs5)
    have c1 := H5.out.rdr.c1
    have f1 := there_free H5.out.rdr.th 1 (by omega)
    have hp5 : (failM b1 2).pos ≤ b1.pos := by rw [failM_pos]; exact Nat.le_refl _
    clear kq hB5 hs5 H4
    go_upto_region 28 with fail
    refine wp_forget2 (fun W => Ca w W nb g s (stepM (failM b1 2)) (nodeC 0 noB nilS)) H5.out.step (fun w6 hw6 => ?_)
    have H6 := Lib.hid hw6
    clear hw6 H5 c1 f1
    have n1 := H6.out.nd.cell (nodeC_set 0 noB nilS 0 (by omega))
    have f1 := H6.out.nd.free (j := 1) (by omega)
    go_upto_region 29 with fail
    refine wp_forget2 (fun W => Ca w W nb g s (stepM (failM b1 2)) (nodeC 0 (fun x => if x = 0 then true else noB x) nilS)) (by
     have := H6.out.put 1 (.bool true) (by omega)
     rw [show (1 : Nat) = 1 + 0 by rfl, nodeC_setB 0 _ _ 0 (by omega)] at this
     exact this) (fun w7 hw7 => ?_)
    have H7 := Lib.hid hw7
    clear hw7 H6 n1 f1
    go_wp2_with (first
   | ((with_reducible refine wpList_loadN rfl _ rfl _ rfl nb 0 ?hx (nodeC 0 (fun x => if x = 0 then true else noB x) nilS) ?hc (nodeC_len _ _ _) ?_); (case hx => rfl); (case hc => exact H7.out.nd.at_))
   | ((with_reducible refine wpList_storeN rfl _ _ rfl _ rfl w.heap.size 0 (nodeC 0 (fun x => if x = 0 then true else noB x) nilS) ?hx ?hy ?ht (nodeC_len _ _ _) (oneN _ _) ?_); (case hx => rfl); (case hy => rfl); (case ht => exact H7.out.res)))
    refine bodyPost_ret (results_agg1 rfl _ _ w.heap.size (nodeC 0 (fun x => if x = 0 then true else noB x) nilS) (.struct _) rfl (World.rangeAt_setCells_same _ _ _ _ (by rw [show (nodeC 0 (fun x => if x = 0 then true else noB x) nilS).length = 258 from nodeC_len _ _ _]; exact H7.out.res)) Tryz.underlying62 rfl (by rw [show (nodeC 0 (fun x => if x = 0 then true else noB x) nilS).length = 258 from nodeC_len _ _ _]; exact node_size)) rfl ?_
    exact ⟨_, _, rfl, Back.mk1 (H7.out.done _).1 rfl (by simp only [stepM]; omega) (fun h0 => absurd h0 (failM_err (by decide))) (H7.out.done _).2⟩
   ·have hx := hlt x rfl
    (try dsimp only at hr ha)
    subst hr ha
    have c1 := H4.out.rdr.c1
    have f1 := there_free H4.out.rdr.th 1 (by omega)
    go_upto_region 28 with fail
    refine wp_forget2 (fun W => Ca w W nb g s (stepM b1) (nodeC 0 noB nilS)) H4.out.step (fun w6 hw6 => ?_)
    have H6 := Lib.hid hw6
    clear hw6 H4 c1 f1
    have n1 := H6.out.nd.cell (nodeC_set 0 noB nilS x hx)
    have f1 := H6.out.nd.free (j := 1 + x) (by omega)
    go_upto_region 29 with fail
    refine wp_forget2 (fun W => Ca w W nb g s (stepM b1) (nodeC 0 (fun y => if y = x then true else noB y) nilS)) (by
     have := H6.out.put (1 + x) (.bool true) (by omega)
     rw [nodeC_setB 0 _ _ x hx] at this
     exact this) (fun w7 hw7 => ?_)
    have H7 := Lib.hid hw7
    clear hw7 H6 n1 f1
    go_wp2_with (first
   | ((with_reducible refine wpList_loadN rfl _ rfl _ rfl nb 0 ?hx (nodeC 0 (fun y => if y = x then true else noB y) nilS) ?hc (nodeC_len _ _ _) ?_); (case hx => rfl); (case hc => exact H7.out.nd.at_))
   | ((with_reducible refine wpList_storeN rfl _ _ rfl _ rfl w.heap.size 0 (nodeC 0 (fun y => if y = x then true else noB y) nilS) ?hx ?hy ?ht (nodeC_len _ _ _) (oneN _ _) ?_); (case hx => rfl); (case hy => rfl); (case ht => exact H7.out.res)))
    refine bodyPost_ret (results_agg1 rfl _ _ w.heap.size (nodeC 0 (fun y => if y = x then true else noB y) nilS) (.struct _) rfl (World.rangeAt_setCells_same _ _ _ _ (by rw [show (nodeC 0 (fun y => if y = x then true else noB y) nilS).length = 258 from nodeC_len _ _ _]; exact H7.out.res)) Tryz.underlying62 rfl (by rw [show (nodeC 0 (fun y => if y = x then true else noB y) nilS).length = 258 from nodeC_len _ _ _]; exact node_size)) rfl ?_
    exact ⟨_, _, rfl, Back.mk1 (H7.out.done _).1 rfl (by simp only [stepM]; omega) (fun _ => ⟨rfl, by rw [oneS_eq]⟩) (H7.out.done _).2⟩
  rw [if_neg e92] at hr ha
  have e92b : ((c : Int) == 92) = false := by rw [beq_eq_false_iff_ne]; omega
  by_cases eo : oddB c = true
  ·rw [if_pos eo] at hr ha
   subst hr ha
   have h4 : c = 42 ∨ c = 43 ∨ c = 63 ∨ c = 93 := by
    simp only [oddB, postB, Bool.or_eq_true, decide_eq_true_eq] at eo
    omega
   have hc2 : c < 256 := hcl
   clear eo
   have kq := KF.out _ _ HC.out.rdr
   have hp5 : (failM b1 2).pos ≤ b1.pos := by rw [failM_pos]; exact Nat.le_refl _
   rcases h4 with rfl | rfl | rfl | rfl
   ·go_wp2_with fail
    refine kq.mono ?_
    rintro e w5 ⟨rfl, hB5, hs5⟩
    have H5 := Lib.hid (HC.out.stp hB5 hs5)
    clear kq hB5 hs5 HC
    have n1 := H5.out.nd.cell (nodeC_set 0 noB nilS 42 (by omega))
    have f1 := H5.out.nd.free (j := 1 + 42) (by omega)
    simp only [Nat.reduceAdd] at n1 f1
    go_upto_region 36 with fail
    refine wp_forget2 (fun W => Ca w W nb g s (failM b1 2) (nodeC 0 (fun x => if x = 42 then true else noB x) nilS)) (by
     have := H5.out.put (1 + 42) (.bool true) (by omega)
     rw [nodeC_setB 0 _ _ 42 (by omega)] at this
     exact this) (fun w7 hw7 => ?_)
    have H7 := Lib.hid hw7
    clear hw7 H5 n1 f1
    go_wp2_with (first
   | ((with_reducible refine wpList_loadN rfl _ rfl _ rfl nb 0 ?hx (nodeC 0 (fun x => if x = 42 then true else noB x) nilS) ?hc (nodeC_len _ _ _) ?_); (case hx => rfl); (case hc => exact H7.out.nd.at_))
   | ((with_reducible refine wpList_storeN rfl _ _ rfl _ rfl w.heap.size 0 (nodeC 0 (fun x => if x = 42 then true else noB x) nilS) ?hx ?hy ?ht (nodeC_len _ _ _) (oneN _ _) ?_); (case hx => rfl); (case hy => rfl); (case ht => exact H7.out.res)))
    refine bodyPost_ret (results_agg1 rfl _ _ w.heap.size (nodeC 0 (fun x => if x = 42 then true else noB x) nilS) (.struct _) rfl (World.rangeAt_setCells_same _ _ _ _ (by rw [show (nodeC 0 (fun x => if x = 42 then true else noB x) nilS).length = 258 from nodeC_len _ _ _]; exact H7.out.res)) Tryz.underlying62 rfl (by rw [show (nodeC 0 (fun x => if x = 42 then true else noB x) nilS).length = 258 from nodeC_len _ _ _]; exact node_size)) rfl ?_
    exact ⟨_, _, rfl, Back.mk1 (H7.out.done _).1 rfl (by omega) (fun h0 => absurd h0 (failM_err (by decide))) (H7.out.done _).2⟩
   ·go_wp2_with fail
    refine kq.mono ?_
    rintro e w5 ⟨rfl, hB5, hs5⟩
    have H5 := Lib.hid (HC.out.stp hB5 hs5)
    clear kq hB5 hs5 HC
    have n1 := H5.out.nd.cell (nodeC_set 0 noB nilS 43 (by omega))
    have f1 := H5.out.nd.free (j := 1 + 43) (by omega)
    simp only [Nat.reduceAdd] at n1 f1
    go_upto_region 36 with fail
    refine wp_forget2 (fun W => Ca w W nb g s (failM b1 2) (nodeC 0 (fun x => if x = 43 then true else noB x) nilS)) (by
     have := H5.out.put (1 + 43) (.bool true) (by omega)
     rw [nodeC_setB 0 _ _ 43 (by omega)] at this
     exact this) (fun w7 hw7 => ?_)
    have H7 := Lib.hid hw7
    clear hw7 H5 n1 f1
    go_wp2_with (first
   | ((with_reducible refine wpList_loadN rfl _ rfl _ rfl nb 0 ?hx (nodeC 0 (fun x => if x = 43 then true else noB x) nilS) ?hc (nodeC_len _ _ _) ?_); (case hx => rfl); (case hc => exact H7.out.nd.at_))
   | ((with_reducible refine wpList_storeN rfl _ _ rfl _ rfl w.heap.size 0 (nodeC 0 (fun x => if x = 43 then true else noB x) nilS) ?hx ?hy ?ht (nodeC_len _ _ _) (oneN _ _) ?_); (case hx => rfl); (case hy => rfl); (case ht => exact H7.out.res)))
    refine bodyPost_ret (results_agg1 rfl _ _ w.heap.size (nodeC 0 (fun x => if x = 43 then true else noB x) nilS) (.struct _) rfl (World.rangeAt_setCells_same _ _ _ _ (by rw [show (nodeC 0 (fun x => if x = 43 then true else noB x) nilS).length = 258 from nodeC_len _ _ _]; exact H7.out.res)) Tryz.underlying62 rfl (by rw [show (nodeC 0 (fun x => if x = 43 then true else noB x) nilS).length = 258 from nodeC_len _ _ _]; exact node_size)) rfl ?_
    exact ⟨_, _, rfl, Back.mk1 (H7.out.done _).1 rfl (by omega) (fun h0 => absurd h0 (failM_err (by decide))) (H7.out.done _).2⟩
   ·go_wp2_with fail
    refine kq.mono ?_
    rintro e w5 ⟨rfl, hB5, hs5⟩
    have H5 := Lib.hid (HC.out.stp hB5 hs5)
    clear kq hB5 hs5 HC
    have n1 := H5.out.nd.cell (nodeC_set 0 noB nilS 63 (by omega))
    have f1 := H5.out.nd.free (j := 1 + 63) (by omega)
    simp only [Nat.reduceAdd] at n1 f1
    go_upto_region 36 with fail
    refine wp_forget2 (fun W => Ca w W nb g s (failM b1 2) (nodeC 0 (fun x => if x = 63 then true else noB x) nilS)) (by
     have := H5.out.put (1 + 63) (.bool true) (by omega)
     rw [nodeC_setB 0 _ _ 63 (by omega)] at this
     exact this) (fun w7 hw7 => ?_)
    have H7 := Lib.hid hw7
    clear hw7 H5 n1 f1
    go_wp2_with (first
   | ((with_reducible refine wpList_loadN rfl _ rfl _ rfl nb 0 ?hx (nodeC 0 (fun x => if x = 63 then true else noB x) nilS) ?hc (nodeC_len _ _ _) ?_); (case hx => rfl); (case hc => exact H7.out.nd.at_))
   | ((with_reducible refine wpList_storeN rfl _ _ rfl _ rfl w.heap.size 0 (nodeC 0 (fun x => if x = 63 then true else noB x) nilS) ?hx ?hy ?ht (nodeC_len _ _ _) (oneN _ _) ?_); (case hx => rfl); (case hy => rfl); (case ht => exact H7.out.res)))
    refine bodyPost_ret (results_agg1 rfl _ _ w.heap.size (nodeC 0 (fun x => if x = 63 then true else noB x) nilS) (.struct _) rfl (World.rangeAt_setCells_same _ _ _ _ (by rw [show (nodeC 0 (fun x => if x = 63 then true else noB x) nilS).length = 258 from nodeC_len _ _ _]; exact H7.out.res)) Tryz.underlying62 rfl (by rw [show (nodeC 0 (fun x => if x = 63 then true else noB x) nilS).length = 258 from nodeC_len _ _ _]; exact node_size)) rfl ?_
    exact ⟨_, _, rfl, Back.mk1 (H7.out.done _).1 rfl (by omega) (fun h0 => absurd h0 (failM_err (by decide))) (H7.out.done _).2⟩
   ·go_wp2_with fail
    refine kq.mono ?_
    rintro e w5 ⟨rfl, hB5, hs5⟩
    have H5 := Lib.hid (HC.out.stp hB5 hs5)
    clear kq hB5 hs5 HC
    have n1 := H5.out.nd.cell (nodeC_set 0 noB nilS 93 (by omega))
    have f1 := H5.out.nd.free (j := 1 + 93) (by omega)
    simp only [Nat.reduceAdd] at n1 f1
    go_upto_region 36 with fail
    refine wp_forget2 (fun W => Ca w W nb g s (failM b1 2) (nodeC 0 (fun x => if x = 93 then true else noB x) nilS)) (by
     have := H5.out.put (1 + 93) (.bool true) (by omega)
     rw [nodeC_setB 0 _ _ 93 (by omega)] at this
     exact this) (fun w7 hw7 => ?_)
    have H7 := Lib.hid hw7
    clear hw7 H5 n1 f1
    go_wp2_with (first
   | ((with_reducible refine wpList_loadN rfl _ rfl _ rfl nb 0 ?hx (nodeC 0 (fun x => if x = 93 then true else noB x) nilS) ?hc (nodeC_len _ _ _) ?_); (case hx => rfl); (case hc => exact H7.out.nd.at_))
   | ((with_reducible refine wpList_storeN rfl _ _ rfl _ rfl w.heap.size 0 (nodeC 0 (fun x => if x = 93 then true else noB x) nilS) ?hx ?hy ?ht (nodeC_len _ _ _) (oneN _ _) ?_); (case hx => rfl); (case hy => rfl); (case ht => exact H7.out.res)))
    refine bodyPost_ret (results_agg1 rfl _ _ w.heap.size (nodeC 0 (fun x => if x = 93 then true else noB x) nilS) (.struct _) rfl (World.rangeAt_setCells_same _ _ _ _ (by rw [show (nodeC 0 (fun x => if x = 93 then true else noB x) nilS).length = 258 from nodeC_len _ _ _]; exact H7.out.res)) Tryz.underlying62 rfl (by rw [show (nodeC 0 (fun x => if x = 93 then true else noB x) nilS).length = 258 from nodeC_len _ _ _]; exact node_size)) rfl ?_
    exact ⟨_, _, rfl, Back.mk1 (H7.out.done _).1 rfl (by omega) (fun h0 => absurd h0 (failM_err (by decide))) (H7.out.done _).2⟩
  ·rw [if_neg eo] at hr ha
   subst hr ha
   have g1 : ((c : Int) == 42) = false := by rw [beq_eq_false_iff_ne]; intro h; apply eo; simp [oddB, postB]; omega
   have g2 : ((c : Int) == 43) = false := by rw [beq_eq_false_iff_ne]; intro h; apply eo; simp [oddB, postB]; omega
   have g3 : ((c : Int) == 63) = false := by rw [beq_eq_false_iff_ne]; intro h; apply eo; simp [oddB, postB]; omega
   have g4 : ((c : Int) == 93) = false := by rw [beq_eq_false_iff_ne]; intro h; apply eo; simp [oddB, postB]; omega
   have n1 := HC.out.nd.cell (nodeC_set 0 noB nilS c hcl)
   have f1 := HC.out.nd.free (j := 1 + c) (by omega)
   clear eo
   go_upto_region 36 with fail
   refine wp_forget2 (fun W => Ca w W nb g s b1 (nodeC 0 (fun y => if y = c then true else noB y) nilS)) (by
    have := HC.out.put (1 + c) (.bool true) (by omega)
    rw [nodeC_setB 0 _ _ c hcl] at this
    exact this) (fun w7 hw7 => ?_)
   have H7 := Lib.hid hw7
   clear hw7 n1 f1
   go_wp2_with (first
   | ((with_reducible refine wpList_loadN rfl _ rfl _ rfl nb 0 ?hx (nodeC 0 (fun y => if y = c then true else noB y) nilS) ?hc (nodeC_len _ _ _) ?_); (case hx => rfl); (case hc => exact H7.out.nd.at_))
   | ((with_reducible refine wpList_storeN rfl _ _ rfl _ rfl w.heap.size 0 (nodeC 0 (fun y => if y = c then true else noB y) nilS) ?hx ?hy ?ht (nodeC_len _ _ _) (oneN _ _) ?_); (case hx => rfl); (case hy => rfl); (case ht => exact H7.out.res)))
   refine bodyPost_ret (results_agg1 rfl _ _ w.heap.size (nodeC 0 (fun y => if y = c then true else noB y) nilS) (.struct _) rfl (World.rangeAt_setCells_same _ _ _ _ (by rw [show (nodeC 0 (fun y => if y = c then true else noB y) nilS).length = 258 from nodeC_len _ _ _]; exact H7.out.res)) Tryz.underlying62 rfl (by rw [show (nodeC 0 (fun y => if y = c then true else noB y) nilS).length = 258 from nodeC_len _ _ _]; exact node_size)) rfl ?_
   exact ⟨_, _, rfl, Back.mk1 (H7.out.done _).1 rfl (by omega) (fun _ => ⟨rfl, by rw [oneS_eq]⟩) (H7.out.done _).2⟩
end Go.Proofs.YtgbapkechngnmaaGreat
/- The reference's Read: a contract. -/
namespace Go.Proofs.YtgbapkechngnmaaGreat
open Go.RowKit
theorem nd_all : ∀ n, NdK 68 .either n ∧ NdK 89 .row n ∧ NdK 113 .atom n
 | 0 => ⟨fun m hm w g s d b _ _ _ _ _ _ hf => by simp only [fuelM] at hf; omega, fun m hm w g s d b _ _ _ _ _ _ hf => by simp only [fuelM] at hf; omega, fun m hm w g s d b _ _ _ _ _ _ hf => by simp only [fuelM] at hf; omega⟩
 | n + 1 => ⟨either_is n (nd_all n).2.1, row_is n (nd_all n).2.2, atom_is n (nd_all n).1⟩
structure Rz (w wx : World) (nb : Nat) (s : ByteArray) (b : Bs) (cs : List Value) (ok : Prop) (a : Re) : Prop where
 rdr : RdrAt wx (w.heap.size + 1) s b
 nd : NdAt wx nb cs
 res : wx.there w.heap.size 0 258
 bl : Below w.heap.size w wx
 hn : w.heap.size + 1 < nb
 one : ∀ y ∈ cs, y.oneCell' = true
 tree : ok → NA wx (fun q => w.heap.size + 2 ≤ q ∧ q < wx.heap.size) 0 [cs] a
theorem Rz.below {w wx wy : World} {nb : Nat} {s : ByteArray} {b : Bs} {cs : List Value} {ok : Prop} {a : Re} (h : Rz w wx nb s b cs ok a) (hb : Below wx.heap.size wx wy) : Rz w wy nb s b cs ok a :=
 ⟨h.rdr.below hb, h.nd.later hb, there_later h.res hb (by have := h.nd.lt; have := h.hn; omega), h.bl.trans (hb.mono h.bl.size), h.hn, h.one, fun o => ((h.tree o).later hb).mono (fun _ hq => ⟨hq.1, by have := hb.size; omega⟩)⟩
theorem Rz.stp {w wx wy : World} {nb : Nat} {s : ByteArray} {b b' : Bs} {cs : List Value} {ok : Prop} {a : Re} (h : Rz w wx nb s b cs ok a) (hr : RdrAt wy (w.heap.size + 1) s b') (hk : Kr (w.heap.size + 1) wx wy) : Rz w wy nb s b' cs ok a :=
 ⟨hr, h.nd.kr hk (by have := h.hn; omega), there_kept h.res (hk.block _ (by have := h.nd.lt; have := h.hn; omega) (by omega)), h.bl.trans (hk.below h.bl.size (fun k e => by omega)), h.hn, h.one, fun o => ((h.tree o).keep hk.size (fun q hq hlt => hk.block q hlt (by omega))).mono (fun _ hq => ⟨hq.1, by have := hk.size; omega⟩)⟩
theorem Rz.fin {w wx : World} {nb : Nat} {s : ByteArray} {b : Bs} {cs : List Value} {ok : Prop} {a : Re} (h : Rz w wx nb s b cs ok a) (vs : List Value) : RdrAt (wx.setCells w.heap.size 0 vs) (w.heap.size + 1) s b ∧ Below w.heap.size w (wx.setCells w.heap.size 0 vs) ∧ (ok → NA (wx.setCells w.heap.size 0 vs) (fun q => w.heap.size ≤ q ∧ q < (wx.setCells w.heap.size 0 vs).heap.size) 0 [cs] a) :=
 ⟨h.rdr.kept (by rw [size_setCells]; exact Nat.le_refl _) (heap_setCells _ _ _ (by omega) _ _), below_puts h.bl (Nat.le_refl _) vs, fun o => ((h.tree o).keep (w' := wx.setCells w.heap.size 0 vs) (by rw [size_setCells]; exact Nat.le_refl _) (fun q hq _ => heap_setCells _ _ _ (by omega) _ _)).mono (fun q hq => ⟨by omega, by rw [size_setCells]; exact hq.2⟩)⟩
theorem endR_err {s : ByteArray} {b : Bs} (he : b.err = (runR s).1.err) (hp : b.err = 0 → b.pos = (runR s).1.pos) : (endR s).err = if b.err = 0 ∧ b.pos < s.size then 2 else b.err := by
 unfold endR
 by_cases h0 : b.err = 0
 ·rw [← hp h0]
  by_cases h1 : b.pos < s.size
  ·rw [if_pos h1, if_pos ⟨h0, h1⟩]
   unfold failM
   rw [← he, if_pos h0]
  ·rw [if_neg h1, if_neg (fun h => h1 h.2)]
   exact he.symm
 ·have hn : ¬ (b.err = 0 ∧ b.pos < s.size) := fun h => h0 h.1
  rw [if_neg hn, he]
  split
  ·unfold failM
   rw [← he, if_neg h0]
   exact he.symm
  ·rfl
set_option maxHeartbeats 6400000 in
set_option maxRecDepth 100000 in
theorem rread_any (s : ByteArray) (w : World) :
  Calls Tryz.prog 41 #[.string s] w fun e w' => ∃ cs, e = .returned (.tuple #[.agg cs.toArray, .int .i64 (errM s)]) ∧ cs.length = 258 ∧ (∀ y ∈ cs, y.oneCell' = true) ∧ (errM s = 0 → NA w' (fun q => w.heap.size ≤ q ∧ q < w'.heap.size) 0 [cs] (reT s)) ∧ Below w.heap.size w w' := by
 have hT := there_new w 0 62
 have hB := alloc_below w (.cells (zeroN 0) 62)
 by_cases hl : 100 < s.size
 ·have hl1 : (100 : Int) < (s.size : Int) := by omega
  have HE : Hid (errM s = 4) := Lib.hid (by unfold errM; rw [if_pos hl])
  have HT := Lib.hid hT
  have HB := Lib.hid hB
  clear hT hB
  go_enter Tryz.func41, Tryz.ntmps41
  go_wp2_with (first
   | (with_reducible refine wpList_allocN rfl rfl _ rfl w.heap.size rfl ?_)
   | ((with_reducible refine wpList_storeN rfl _ _ rfl _ rfl w.heap.size 0 (nodeC 0 noB nilS) ?hx ?hy ?ht (nodeC_len _ _ _) (oneN _ _) ?_); (case hx => rfl); (case hy => rfl); (case ht => exact HT.out)))
  refine bodyPost_ret (results_agg2 rfl _ _ w.heap.size (nodeC 0 noB nilS) (.struct _) rfl (World.rangeAt_setCells_same _ _ _ _ (by rw [nodeC_len]; exact HT.out)) Tryz.underlying62 rfl (by rw [nodeC_len]; exact node_size)) rfl ?_
  refine ⟨nodeC 0 noB nilS, ?_, nodeC_len _ _ _, oneN _ _, fun h0 => ?_, below_puts HB.out (Nat.le_refl _) _⟩
  ·rw [HE.out]; rfl
  ·rw [HE.out] at h0; exact absurd h0 (by decide)
 ·have hl1 : (s.size : Int) ≤ 100 := by omega
  have HL : Hid (¬ 100 < s.size) := Lib.hid hl
  have HEE : Hid (errM s = (endR s).err) := Lib.hid (by unfold errM; rw [if_neg hl])
  have hb2 := hB.trans ((alloc_below (w.alloc (.cells (zeroN 0) 62)) (.cells #[.string s, .int .i64 0, .int .i64 0] 89)).mono hB.size)
  have hsz : ((w.alloc (.cells (zeroN 0) 62)).alloc (.cells #[.string s, .int .i64 0, .int .i64 0] 89)).heap.size = w.heap.size + 2 := by rw [World.size_alloc, World.size_alloc]
  have hrd : RdrAt ((w.alloc (.cells (zeroN 0) 62)).alloc (.cells #[.string s, .int .i64 0, .int .i64 0] 89)) (w.heap.size + 1) s bs0 := by
   have hr := Below.refl ((w.alloc (.cells (zeroN 0) 62)).alloc (.cells #[.string s, .int .i64 0, .int .i64 0] 89)).heap.size ((w.alloc (.cells (zeroN 0) 62)).alloc (.cells #[.string s, .int .i64 0, .int .i64 0] 89))
   have h0 := (box_cells hr).1 0 _ rfl
   have h1 := (box_cells hr).1 1 _ rfl
   have h2 := (box_cells hr).1 2 _ rfl
   have ht := box_there hr
   rw [World.size_alloc] at h0 h1 h2 ht
   exact ⟨h0, h1, h2, ht, by rw [hsz]; omega⟩
  have ht2 := there_later hT (alloc_below _ (.cells #[.string s, .int .i64 0, .int .i64 0] 89)) (by rw [World.size_alloc]; omega)
  obtain ⟨W2, hW2⟩ : ∃ W2, ((w.alloc (.cells (zeroN 0) 62)).alloc (.cells #[.string s, .int .i64 0, .int .i64 0] 89)) = W2 := ⟨_, rfl⟩
  rw [hW2] at hb2 hsz hrd ht2
  have ke := (nd_all (8 * s.size + 5)).1 _ (Nat.le_refl _) W2 (w.heap.size + 1) s 0 bs0 hrd rfl (by omega) (by simp [bs0]) (fun h => by cases h) (by omega) (by simp [fuelM, bs0])
  have HB2 := Lib.hid hb2
  have HT2 := Lib.hid ht2
  clear hb2 hrd ht2 hT hB
  go_enter Tryz.func41, Tryz.ntmps41
  go_upto_region 4 with (with_reducible refine wpList_allocN rfl rfl _ rfl w.heap.size rfl ?_)
  (try simp only [World.size_alloc])
  (try rw [hW2])
  clear hW2
  go_wp2_with fail
  refine ke.mono ?_
  rintro e w3 ⟨cs, b', rfl, hbk⟩
  have hn3 := NdAt.new w3 0 62
  have hs3 := hbk.kr.size
  have hrz : Rz w ((w3.alloc (.cells (zeroN 0) 62)).setCells w3.heap.size 0 cs) w3.heap.size s b' cs (b'.err = 0) (reT s) := by
   have hba := alloc_below w3 (.cells (zeroN 0) 62)
   have hbl3 : Below w.heap.size w w3 := HB2.out.trans (hbk.kr.below HB2.out.size (fun k e => by omega))
   have hlt := hbk.rdr.lt
   refine ⟨(hbk.rdr.below hba).kept (by rw [size_setCells]; exact Nat.le_refl _) (heap_setCells _ _ _ (by omega) _ _), hn3.stored hbk.len, there_kept (there_later (there_kept HT2.out (hbk.kr.block _ (by omega) (by omega))) hba (by omega)) (heap_setCells _ _ _ (by omega) _ _), below_puts (hbl3.trans (hba.mono hbl3.size)) (by omega) _, by omega, hbk.one, fun h0 => ?_⟩
   refine (((hbk.tree h0).2.later hba).keep (w' := (w3.alloc (.cells (zeroN 0) 62)).setCells w3.heap.size 0 cs) (by rw [size_setCells]; exact Nat.le_refl _) (fun q hq _ => heap_setCells _ _ _ (by omega) _ _)).mono (fun q hq => ⟨by omega, by rw [size_setCells, World.size_alloc]; omega⟩)
  have HTH := Lib.hid hn3.th
  have HLN := Lib.hid hbk.len
  have HON := Lib.hid hbk.one
  have HEN := Lib.hid (endR_err hbk.err (fun h0 => (hbk.tree h0).1))
  have hbp := hbk.pos
  clear ke hbk hn3 hs3 hsz HB2 HT2
  go_upto_region 5 with (first
   | (with_reducible refine wpList_allocN rfl rfl _ rfl w3.heap.size rfl ?_)
   | ((with_reducible refine wpList_storeN rfl _ _ rfl _ rfl w3.heap.size 0 cs ?hx ?hy ?ht HLN.out HON.out ?_); (case hx => rfl); (case hy => rfl); (case ht => exact HTH.out)))
  clear HTH
  (try simp only [Act.put, List.setIfInBounds_toArray, List.set_cons_zero, List.set_cons_succ])
  generalize ((w3.alloc (.cells (zeroN 0) 62)).setCells w3.heap.size 0 cs) = w4 at *
  generalize w3.heap.size = nb at *
  have HZ := Lib.hid hrz
  clear hrz
  obtain ⟨B, hB⟩ : ∃ B, decide (b'.err = 0 ∧ b'.pos < s.size) = B := ⟨_, rfl⟩
  have HBB := Lib.hid hB
  clear hB
  go_cut [31] from 32 (fun v wx => v = .bool B ∧ Hid (Rz w wx nb s b' cs (b'.err = 0) (reT s)))
  case first =>
   have c0 := HZ.out.rdr.c0
   have c1 := HZ.out.rdr.c1
   have c2 := HZ.out.rdr.c2
   by_cases h0 : b'.err = 0
   ·have hpe : decide (b'.pos < s.size) = B := by rw [← HBB.out]; exact decide_eq_decide.2 ⟨fun h => ⟨h0, h⟩, fun h => h.2⟩
    have hpi : decide ((b'.pos : Int) < (s.size : Int)) = B := by rw [← hpe]; exact decide_eq_decide.2 (by omega)
    rw [h0] at c2
    have HPE := Lib.hid hpe
    clear hpe h0
    go_big_quiet (fail)
    go_wp2
    go_meet
    exact ⟨by first | rfl | exact congrArg Value.bool HPE.out, Lib.hid (HZ.out.below (bl_drewN (Below.refl _ _) _))⟩
   ·have hbf : false = B := by rw [← HBB.out]; exact (decide_eq_false (fun h => h0 h.1)).symm
    have h0b : (b'.err == 0) = false := by rw [beq_eq_false_iff_ne]; exact h0
    clear h0
    subst hbf
    go_big_quiet (fail)
    go_wp2
    go_meet
    exact ⟨rfl, Lib.hid (HZ.out.below (bl_drewN (Below.refl _ _) _))⟩
  case rest =>
  obtain ⟨rfl, HY⟩ := hcut
  clear HZ
  go_upto_if 31 with fail
  go_cut [] from 32 (fun wx => ∃ bz : Bs, bz.err = errM s ∧ Hid (Rz w wx nb s bz cs (errM s = 0) (reT s)))
  case first =>
   cases B with
   | true =>
    have h1 := of_decide_eq_true HBB.out
    have kq := rfail_is wc (w.heap.size + 1) s b' 2 HY.out.rdr
    go_wp2_with fail
    refine kq.mono ?_
    rintro e w5 ⟨rfl, hB5, hs5⟩
    have hz := HY.out.stp hB5 hs5
    clear kq
    go_wp2
    go_meet
    have he : errM s = 2 := by rw [HEE.out, HEN.out, if_pos h1]
    refine ⟨failM b' 2, ?_, Lib.hid ⟨hz.rdr, hz.nd, hz.res, hz.bl, hz.hn, hz.one, fun h0 => absurd (he.symm.trans h0) (by decide)⟩⟩
    rw [he]
    unfold failM
    rw [if_pos h1.1]
   | false =>
    have h1 := of_decide_eq_false HBB.out
    go_wp2
    go_meet
    have he : errM s = b'.err := by rw [HEE.out, HEN.out, if_neg h1]
    exact ⟨b', he.symm, Lib.hid (by rw [he]; exact HY.out)⟩
  case rest =>
  obtain ⟨bz, hbz, HX⟩ := hcut
  have HBZ := Lib.hid hbz
  clear HY HBB hbz
  have c2 := HX.out.rdr.c2
  by_cases h0 : bz.err = 0
  ·have HE0 : Hid (errM s = 0) := Lib.hid (HBZ.out.symm.trans h0)
   rw [h0] at c2
   go_wp2_with (first
    | ((with_reducible refine wpList_loadN rfl _ rfl _ rfl nb 0 ?hx cs ?hc HLN.out ?_); (case hx => rfl); (case hc => exact HX.out.nd.at_))
    | ((with_reducible refine wpList_storeN rfl _ _ rfl _ rfl w.heap.size 0 cs ?hx ?hy ?ht HLN.out HON.out ?_); (case hx => rfl); (case hy => rfl); (case ht => exact HX.out.res)))
   refine bodyPost_ret (results_agg2 rfl _ _ w.heap.size cs (.struct _) rfl (World.rangeAt_setCells_same _ _ _ _ (by rw [HLN.out]; exact HX.out.res)) Tryz.underlying62 rfl (by rw [HLN.out]; exact node_size)) rfl ?_
   have hf := HX.out.fin cs
   exact ⟨cs, by rw [HE0.out]; rfl, HLN.out, HON.out, fun h => hf.2.2 h, hf.2.1⟩
  ·have h0b : (bz.err != 0) = true := by simpa using h0
   have HNE : Hid (¬ errM s = 0) := Lib.hid (fun h => h0 (HBZ.out.trans h))
   clear h0
   have HXD := Lib.hid (HX.out.below ((Below.refl _ _).drew))
   go_upto_region 8 with fail
   refine wp_region_held_drew (S := (fun W => W.cell? ⟨w.heap.size + 1, 2, none⟩ = some (.int .i64 bz.err))) (by kernel_rfl) HX.out.rdr.c2 (fun hHeld => ?_)
   refine plIn [0, 1, 2, 3, 4] ?_
   iterate 5
    refine hP (v := ?_) rfl rfl hHeld ?_ ?_
    rotate_left
    ·rintro wh hS
     go_simp
     (try with_reducible rfl)
    simp only [Act.put, List.setIfInBounds_toArray, List.set_cons_zero, List.set_cons_succ]
   refine plOut ?_
   refine held_step (i := 5) rfl (by kernel_rfl) (fun K hK => ?_)
   rw [if_pos (by rfl)]; refine wp_store_mid 62 _ _ rfl w.heap.size 0 (nodeC 0 noB nilS).toArray ?hx ?hy ?ht ?hi ?h1 ?_; (case hx => rfl); (case hy => rfl); (case ht => simp only [List.size_toArray, nodeC_len]; exact HXD.out.res); (case hi => simp only [List.size_toArray, nodeC_len]; exact node_size); (case h1 => exact all_oneCell_toArray (oneN 0 noB)); simp only [List.getElem_toArray, List.getElem_cons_succ, List.getElem_cons_zero, Act.put]
   refine hK.out _ _ (HXD.out.fin (nodeC 0 noB nilS)).1.c2 (fun hHeld => ?_)
   clear hK K
   (try simp only [Act.put, List.setIfInBounds_toArray])
   refine hT (i := 6) (v := ?_) rfl rfl hHeld ?_ ?_
   rotate_left
   ·rintro wh hS
    go_simp
    (try with_reducible rfl)
   simp only [Act.put, List.setIfInBounds_toArray, List.set_cons_zero, List.set_cons_succ]
   refine wpAnyH_done (by kernel_rfl) ?_ _
   go_wp2
   refine bodyPost_ret (results_agg2 rfl _ _ w.heap.size (nodeC 0 noB nilS) (.struct _) rfl (World.rangeAt_setCells_same _ _ _ _ (by rw [nodeC_len]; exact HXD.out.res)) Tryz.underlying62 rfl (by rw [nodeC_len]; exact node_size)) rfl ?_
   have hf := HXD.out.fin (nodeC 0 noB nilS)
   exact ⟨nodeC 0 noB nilS, by rw [← HBZ.out]; rfl, nodeC_len _ _ _, oneN _ _, fun h => absurd h HNE.out, hf.2.1⟩
end Go.Proofs.YtgbapkechngnmaaGreat
/- Rows of Booleans; lychgateref05.both: a contract. -/
namespace Go.Proofs.YtgbapkechngnmaaGreat
open Go.RowKit
theorem wp_forget3 {Pr : Program} {Q : Exit → Act → World → Prop} {c : Code} {a : Act} {W : World} (P : World → Prop) (h : P W) (k : ∀ W', P W' → Code.wp Pr c Q a W') : Code.wp Pr c Q a W := k W h
def BsAt (w : World) (v : Value) (n : Nat) (X : Nat → Bool) : Prop := ∃ b, v = .slice (some ⟨b, 0, none⟩) n n ∧ w.rowIs b 4 n (fun j => .bool (X j))
theorem BsAt.later {w w' : World} {v : Value} {n : Nat} {X : Nat → Bool} (h : BsAt w v n X) (hb : Below w.heap.size w w') : BsAt w' v n X := by
 obtain ⟨b, e, hr⟩ := h
 exact ⟨b, e, hr.of_block (hb.block b hr.lt)⟩
theorem BsAt.congr {w : World} {v : Value} {n : Nat} {X Y : Nat → Bool} (h : BsAt w v n X) (e : ∀ j, j < n → X j = Y j) : BsAt w v n Y := by
 obtain ⟨b, e1, hr⟩ := h
 exact ⟨b, e1, hr.congr (fun j hj => by rw [e j hj])⟩
theorem bs_made (w : World) (n : Nat) : (w.alloc (.cells (madeCells #[.bool false] n) 4)).rowIs w.heap.size 4 n (fun j => .bool ((fun _ => false) j)) := World.rowIs_made w (.bool false) n _
theorem bs_put {w : World} {b : Nat} {n : Nat} {X : Nat → Bool} (h : w.rowIs b 4 n (fun j => .bool (X j))) (i : Nat) (v : Bool) : (w.setCell ⟨b, i, none⟩ (.bool v)).rowIs b 4 n (fun j => .bool (if j = i then v else X j)) :=
 (h.set i (.bool v)).congr (fun j _ => by by_cases e : j = i <;> simp [e])
structure BW (w wr : World) (b n : Nat) (X : Nat → Bool) : Prop where
 row : wr.rowIs b 4 n (fun j => .bool (X j))
 bl : Below w.heap.size w wr
 hb : w.heap.size ≤ b
theorem BW.new (w : World) (n : Nat) : BW w (w.alloc (.cells (madeCells #[.bool false] n) 4)) w.heap.size n (fun _ => false) := ⟨bs_made w n, alloc_below _ _, Nat.le_refl _⟩
theorem BW.put {w wr : World} {b n : Nat} {X : Nat → Bool} (h : BW w wr b n X) (i : Nat) (v : Bool) : BW w (wr.setCell ⟨b, i, none⟩ (.bool v)) b n (fun j => if j = i then v else X j) := ⟨bs_put h.row i v, below_put h.bl h.hb, h.hb⟩
theorem BW.congr {w wr : World} {b n : Nat} {X Y : Nat → Bool} (h : BW w wr b n X) (e : ∀ j, j < n → X j = Y j) : BW w wr b n Y := ⟨h.row.congr (fun j hj => by rw [e j hj]), h.bl, h.hb⟩
theorem BW.old {w wr : World} {b n : Nat} {X : Nat → Bool} (h : BW w wr b n X) {g m j : Nat} {Y : Nat → Bool} (hY : w.rowIs g 4 m (fun j => .bool (Y j))) (hj : j < m) : wr.cell? ⟨g, j, none⟩ = some (.bool (Y j)) := keep_cell (hY.cell hj) h.bl hY.lt
end Go.Proofs.YtgbapkechngnmaaGreat
/- The reference's ends, of a set, of alternatives, of a row, of one perhaps: contracts. -/
namespace Go.Proofs.YtgbapkechngnmaaGreat
open Go.RowKit
def EnB (s : ByteArray) (a : Re) (X Y : Nat → Bool) : Prop := ∀ j, j ≤ s.size → (Y j = true ↔ En (bytesN s) a (fun i => X i = true) j)
def EndsK (w : World) (s : ByteArray) (x : List Value) (a : Re) : Prop := ∀ (w' : World), Below w.heap.size w w' → ∀ (v : Value) (X : Nat → Bool), BsAt w' v (s.size + 1) X →
 Calls Tryz.prog 70 #[.agg x.toArray, .string s, v] w' fun e w'' => ∃ v' Y, e = .returned v' ∧ BsAt w'' v' (s.size + 1) Y ∧ EnB s a X Y ∧ Below w'.heap.size w' w''
structure Ez (w wr : World) (x : List Value) : Prop where
 at_ : wr.rangeAt w.heap.size 0 x
 lt : w.heap.size < wr.heap.size
 bl : Below w.heap.size w wr
theorem Ez.below {w wr wr' : World} {x : List Value} (h : Ez w wr x) (hb : Below wr.heap.size wr wr') : Ez w wr' x := ⟨range_later h.at_ hb h.lt, Nat.lt_of_lt_of_le h.lt hb.size, h.bl.trans (hb.mono h.bl.size)⟩
theorem Ez.cell {w wr : World} {x : List Value} (h : Ez w wr x) {j : Nat} {v : Value} (hv : x[j]? = some v) : wr.cell? ⟨w.heap.size, j, none⟩ = some v := by
 have := h.at_ j v hv
 rwa [Nat.zero_add] at this
theorem Ez.set {w wr : World} {x : List Value} (h : Ez w wr x) {b : Nat} (hb : w.heap.size < b) (i : Nat) (v : Value) : Ez w (wr.setCell ⟨b, i, none⟩ v) x :=
 ⟨fun j u hu => by rw [rfar (by omega)]; exact h.at_ j u hu, by simpa using h.lt, below_put h.bl (by omega)⟩
theorem Ez.new (w : World) (x : List Value) (t u : TypeId) (c : Array Value) : Ez w ((w.alloc (.cells x.toArray t)).alloc (.cells c u)) x := by
 have h0 := box_range (Below.refl _ (w.alloc (.cells x.toArray t)))
 have hb := alloc_below (w.alloc (.cells x.toArray t)) (.cells c u)
 have h1 := alloc_below w (.cells x.toArray t)
 refine ⟨range_later (by simpa using h0) hb (by rw [World.size_alloc]; omega), by rw [World.size_alloc, World.size_alloc]; omega, h1.trans (hb.mono h1.size)⟩
structure Kd (w0 : World) (s : ByteArray) (P : Nat → Prop) (kv : Value) (l : List (List Value)) (bs : List Re) : Prop where
 kids : KidsAt w0 P kv l
 len : bs.length = l.length
 each : ∀ i (h : i < l.length) (h2 : i < bs.length), EndsK w0 s l[i] bs[i]
end Go.Proofs.YtgbapkechngnmaaGreat
/- The reference's ends, of any number of times, of once and more: contracts. -/
namespace Go.Proofs.YtgbapkechngnmaaGreat
open Go.RowKit
def newB (St O : Nat → Bool) (i : Nat) : Bool := (List.range i).any (fun j => St j && !O j)
structure RepI (s : ByteArray) (a : Re) (X O St : Nat → Bool) (lo k : Nat) (mo : Bool) : Prop where
 st : ∀ j, j ≤ s.size → (St j = true ↔ Ei (bytesN s) a (fun i => X i = true) k j)
 out : ∀ j, j ≤ s.size → (O j = true ↔ ∃ m, lo ≤ m ∧ m ≤ k ∧ Ei (bytesN s) a (fun i => X i = true) m j)
 fin : mo = false → ∃ k', k = k' + 1 ∧ ∀ j, j ≤ s.size → Ei (bytesN s) a (fun i => X i = true) k j → ∃ m, lo ≤ m ∧ m ≤ k' ∧ Ei (bytesN s) a (fun i => X i = true) m j
theorem RepI.next {s : ByteArray} {a : Re} {X O St St' : Nat → Bool} {lo k : Nat} {mo : Bool} (h : RepI s a X O St lo k mo) (hlo : lo ≤ 1) (hE : EnB s a St St') : RepI s a X (fun j => O j || St' j) St' lo (k + 1) (newB St' O (s.size + 1)) := by
 have h1 : ∀ j, j ≤ s.size → (St' j = true ↔ Ei (bytesN s) a (fun i => X i = true) (k + 1) j) := fun j hj => by
  rw [hE j hj]
  exact En.congr (fun i hi => h.st i (by rw [bytesN_len] at hi; exact hi))
 refine ⟨h1, fun j hj => ?_, fun hn => ⟨k, rfl, fun j hj he => ?_⟩⟩
 ·rw [Bool.or_eq_true, h.out j hj, h1 j hj]
  constructor
  ·rintro (⟨m, a1, a2, a3⟩ | h2)
   ·exact ⟨m, a1, by omega, a3⟩
   ·exact ⟨k + 1, by omega, Nat.le_refl _, h2⟩
  ·rintro ⟨m, a1, a2, a3⟩
   by_cases e : m = k + 1
   ·subst e; exact .inr a3
   ·exact .inl ⟨m, a1, by omega, a3⟩
 ·have h2 : ¬ (St' j = true ∧ O j = false) := fun hh => by
   have : newB St' O (s.size + 1) = true := by
    unfold newB
    rw [List.any_eq_true]
    exact ⟨j, List.mem_range.2 (by omega), by rw [hh.1, hh.2]; rfl⟩
   rw [hn] at this
   cases this
  have h3 := (h1 j hj).2 he
  have h4 : O j = true := by
   cases hO : O j with
   | true => rfl
   | false => exact absurd ⟨h3, hO⟩ h2
  obtain ⟨m, a1, a2, a3⟩ := (h.out j hj).1 h4
  exact ⟨m, a1, a2, a3⟩
end Go.Proofs.YtgbapkechngnmaaGreat
/- The reference's ends of any tree; Fits: contracts. -/
namespace Go.Proofs.YtgbapkechngnmaaGreat
open Go.RowKit
end Go.Proofs.YtgbapkechngnmaaGreat
/- Slices of integers that are read. No program in sight. -/
namespace Go.Proofs.YtgbapkechngnmaaGreat
open Go.RowKit
abbrev I (x : Int) : Value := .int .i64 x
def IntsAt (w : World) (v : Value) (l : List Int) : Prop := RdAt w v l.length 1 (l.map I)
theorem IntsAt.nil (w : World) : IntsAt w (.slice none 0 0) [] := RdAt.nil w 1
theorem IntsAt.later {w w' : World} {v : Value} {l : List Int} (h : IntsAt w v l) (hb : Below w.heap.size w w') : IntsAt w' v l := RdAt.later h hb
theorem IntsAt.own {w : World} {base : Nat} {e : TypeId} {v : Value} {l : List Int} (h : w.ownsRow base e 1 v l.length (l.map I)) : IntsAt w v l := RdAt.own h
end Go.Proofs.YtgbapkechngnmaaGreat
/- Several parts in one: Labels, said plainly: a level and 32 teams as the bits of a number. No program in sight. label.Right and label.Flows: contracts. -/
namespace Go.Proofs.YtgbapkechngnmaaGreat
open Go.RowKit
end Go.Proofs.YtgbapkechngnmaaGreat
namespace Go.Proofs.YtgbapkechngnmaaGreat
open Go.RowKit
end Go.Proofs.YtgbapkechngnmaaGreat
/- The element of a list of int. -/
namespace Go.Proofs.YtgbapkechngnmaaGreat
open Go.RowKit
end Go.Proofs.YtgbapkechngnmaaGreat
/- lychgateref01: Right, Teams, has, Flows: contracts. -/
namespace Go.Proofs.YtgbapkechngnmaaGreat
open Go.RowKit
end Go.Proofs.YtgbapkechngnmaaGreat
/- policy.Find, label.Join, policy.Raised: contracts. -/
namespace Go.Proofs.YtgbapkechngnmaaGreat
open Go.RowKit
/-! plain -/
abbrev Nmd := ByteArray × Int × Nat
def nmdC (x : Nmd) : List Value := [.string x.1, .int .i64 x.2.1, .int .u32 x.2.2]
def nmdCells : List Nmd → List Value
 | [] => []
 | x :: l => nmdC x ++ nmdCells l
def NmdsAt (w : World) (v : Value) (l : List Nmd) : Prop := RdAt w v l.length 3 (nmdCells l)
theorem NmdsAt.later {w w' : World} {v : Value} {l : List Nmd} (h : NmdsAt w v l) (hb : Below w.heap.size w w') : NmdsAt w' v l := RdAt.later h hb
/-! the walks -/
end Go.Proofs.YtgbapkechngnmaaGreat
/- label.Join, policy.Raised: contracts. -/
namespace Go.Proofs.YtgbapkechngnmaaGreat
open Go.RowKit
end Go.Proofs.YtgbapkechngnmaaGreat
/- policy.Visible: its predicate, slices.Clone and slices.DeleteFunc at Field: contracts. -/
namespace Go.Proofs.YtgbapkechngnmaaGreat
open Go.RowKit
end Go.Proofs.YtgbapkechngnmaaGreat
/- alert.Right and alert.Fires: contracts. -/
namespace Go.Proofs.YtgbapkechngnmaaGreat
open Go.RowKit
structure Al where
 src : ByteArray
 fl : List Fld
 lv : Int
 c : Nat
 fr : Int
 til : Int
end Go.Proofs.YtgbapkechngnmaaGreat
/- Alerts in memory. -/
namespace Go.Proofs.YtgbapkechngnmaaGreat
open Go.RowKit
theorem fldCells_take (l : List Fld) (i : Nat) : fldCells (l.take i) = (fldCells l).take (i * 2) := by
 induction l generalizing i with
 | nil => simp [fldCells]
 | cons f l ih =>
  cases i with
  | zero => simp [fldCells]
  | succ i => rw [List.take_succ_cons, fldCells, ih, fldCells, show (i + 1) * 2 = i * 2 + 1 + 1 by omega]; rfl
theorem fld_take {w : World} {a : Option Addr} {c : Nat} {fl : List Fld} (h : FldsAt w (.slice a fl.length c) fl) (k : Nat) (hk : k ≤ fl.length) (hn : a = none → fl.length = 0) : FldsAt w (.slice a k c) (fl.take k) := by
 have hl : (fl.take k).length = k := by rw [List.length_take]; omega
 unfold FldsAt at h ⊢
 rw [hl, fldCells_take]
 refine ⟨by rw [List.length_take, fldCells_len]; omega, ?_⟩
 rcases h.2 with ⟨h1, h0⟩ | ⟨ad, c', h1, hc, hr⟩
 ·simp only [Value.slice.injEq] at h1
  obtain ⟨rfl, h2, rfl⟩ := h1
  exact .inl ⟨by rw [show k = 0 by omega], by omega⟩
 ·simp only [Value.slice.injEq] at h1
  obtain ⟨rfl, _, rfl⟩ := h1
  refine .inr ⟨ad, c, rfl, by omega, fun h0 => ?_⟩
  obtain ⟨b, o, rfl, hlt, hcell⟩ := hr (by omega)
  refine ⟨b, o, rfl, hlt, fun j x hj => hcell j x ?_⟩
  have hjl := (List.getElem?_eq_some_iff.1 hj).1
  rw [List.length_take] at hjl
  rwa [List.getElem?_take_of_lt (by omega)] at hj
def alC (x : Al) (v : Value) : List Value := [.string x.src, v, .int .i64 x.lv, .int .u32 x.c, .int .i64 x.fr, .int .i64 x.til]
def alCells : List (Al × Value) → List Value
 | [] => []
 | p :: l => alC p.1 p.2 ++ alCells l
structure AlFit (x : Al) : Prop where
 src : x.src.size ≤ maxLen
 fl : FldsFit x.fl
 len : x.fl.length ≤ maxLen
 c : x.c < 4294967296
structure AlsAt (w : World) (v : Value) (l : List (Al × Value)) : Prop where
 row : RdAt w v l.length 6 (alCells l)
 fld : ∀ p ∈ l, FldsAt w p.2 p.1.fl ∧ AlFit p.1
theorem AlsAt.later {w w' : World} {v : Value} {l : List (Al × Value)} (h : AlsAt w v l) (hb : Below w.heap.size w w') : AlsAt w' v l := ⟨h.row.later hb, fun p hp => ⟨(h.fld p hp).1.later hb, (h.fld p hp).2⟩⟩
end Go.Proofs.YtgbapkechngnmaaGreat
/- slices.Clone and slices.DeleteFunc at Field, policy.Visible: contracts. -/
namespace Go.Proofs.YtgbapkechngnmaaGreat
open Go.RowKit
/-! plain -/
theorem info_fld : (Tryz.prog.info? 46).map (fun i => (i.zero, i.size, i.bytes)) = some (some (.agg #[.string ⟨#[]⟩, .string ⟨#[]⟩]), 2, 32) := by kernel_rfl
end Go.Proofs.YtgbapkechngnmaaGreat
/- slices.DeleteFunc at Field, policy.Visible: contracts. -/
namespace Go.Proofs.YtgbapkechngnmaaGreat
open Go.RowKit
theorem below_put_base {B : Nat} {w W : World} {g j : Nat} {x : Value} (h : Below B w W) (hb : B ≤ g) : Below B w (W.setCell ⟨g, j, none⟩ x) :=
 h.trans ((Below.refl B W).setCell (p := ⟨g, j, none⟩) hb x)
theorem below_puts_base {B : Nat} {w W : World} {g o : Nat} (h : Below B w W) (hb : B ≤ g) : ∀ (vs : List Value), Below B w (W.setCells g o vs) := by
 intro vs
 induction vs generalizing W o with
 | nil => exact h
 | cons v r ih => exact ih (below_put_base h hb)
end Go.Proofs.YtgbapkechngnmaaGreat
/- alert.Cut: a contract. -/
namespace Go.Proofs.YtgbapkechngnmaaGreat
open Go.RowKit
structure CutBox (w W : World) (p0 p1 p2 p3 p4 p5 a0 a1 a2 a3 a4 a5 l0 l1 : Value) : Prop where
 p : C6 w.heap.size p0 p1 p2 p3 p4 p5 W
 a : C6 (w.heap.size + 1) a0 a1 a2 a3 a4 a5 W
 l0 : W.cell? ⟨w.heap.size + 1 + 1, 0, none⟩ = some l0
 l1 : W.cell? ⟨w.heap.size + 1 + 1, 1, none⟩ = some l1
 r : C6 (w.heap.size + 1 + 1 + 1) (.string ⟨#[]⟩) (.slice none 0 0) (.int .i64 0) (.int .u32 0) (.int .i64 0) (.int .i64 0) W
 ta : W.there (w.heap.size + 1) 0 6
 tr : W.there (w.heap.size + 1 + 1 + 1) 0 6
 lt : w.heap.size + 1 + 1 + 1 < W.heap.size
 below : Below w.heap.size w W
theorem CutBox.later {w W W' : World} {p0 p1 p2 p3 p4 p5 a0 a1 a2 a3 a4 a5 l0 l1 : Value} (h : CutBox w W p0 p1 p2 p3 p4 p5 a0 a1 a2 a3 a4 a5 l0 l1) (hb : Below W.heap.size W W') : CutBox w W' p0 p1 p2 p3 p4 p5 a0 a1 a2 a3 a4 a5 l0 l1 := by
 have hl := h.lt
 exact ⟨h.p.later hb (by omega), h.a.later hb (by omega), keep_cell h.l0 hb (by omega), keep_cell h.l1 hb (by omega), h.r.later hb (by omega), there_later h.ta hb (by omega), there_later h.tr hb (by omega), Nat.lt_of_lt_of_le hl hb.size, h.below.trans (hb.mono h.below.size)⟩
end Go.Proofs.YtgbapkechngnmaaGreat
