/- MatchTurns: the card: whatever the arguments, the law returns true and its arguments read as they did. No condition. -/
import Derived.Test.YtgbapkechngnmaaGreatU6CP2
import Derived.Deep.QuietTactic
import Derived.BigQuiet
import Derived.Test.YtgbapkechngnmaaGreatFrame12

/- The argument of MatchTurns: a matcher. -/
namespace Go.Proofs.YtgbapkechngnmaaGreat
open Go.RowKit Go.WideShapes Go.ChangeShapes Go.Deep

def ArgMt (v : Value) (x : Mt) : Prop := v = .agg #[.string x.nm, .int .i64 x.op, .string x.val] ∧ MtFit x
set_option maxRecDepth 100000 in
theorem mt_of_trod {H : Type} {enc : TypeId × Value → H} {W : World} {n : Nat} {c0 c1 c2 : Value} {x : DataW H × List MemPlace} (h : DataW.trod enc Tryz.prog W 0 (fun _ => true) true n 29 [c0, c1, c2] = some x) : ∃ m, ArgMt (.agg #[c0, c1, c2]) m := by
 have hcs : Tryz.prog.cellsOf 9 = 1 := by kernel_rfl
 have hci : Tryz.prog.cellsOf 3 = 1 := by kernel_rfl
 obtain ⟨ys, n', hn', hy, hlen, hyl, hf⟩ := DataW.trod_struct Tryz.underlying29 h
 have t0 := hf 0 _ rfl
 have t1 := hf 1 _ rfl
 have t2 := hf 2 _ rfl
 match ys, hyl with
 | [y0, y1, y2], _ =>
  obtain ⟨s0, q0, _, z0⟩ := DataW.trod_string Tryz.underlying9 t0
  obtain ⟨k1, q1, _, _⟩ := DataW.trod_int Tryz.underlying3 t1
  obtain ⟨s2, q2, _, z2⟩ := DataW.trod_string Tryz.underlying9 t2
  simp [hcs] at q0 q2
  simp [hci] at q1
  subst q0 q1 q2
  exact ⟨⟨s0, k1, s2⟩, rfl, z0, z2⟩
set_option maxRecDepth 100000 in
theorem mt_of_arg {H : Type} {enc : TypeId × Value → H} {W : World} {base : Nat} {v : Value} {d : DataW H} {p : List MemPlace} (hval : Value.okWide Tryz.prog W .any base 29 v) (h : DataW.Trod enc Tryz.prog W 0 (fun _ => true) true 29 v d p) : ∃ x, ArgMt v x := by
 obtain ⟨cs, rfl, hsz, _⟩ : ∃ cs, v = .agg cs ∧ cs.size = Tryz.prog.cellsOf 29 ∧ Row.okWide Tryz.prog W .any base 29 cs := by
  simpa [Value.okWide, Tryz.underlying29] using hval
 rw [show Tryz.prog.cellsOf 29 = 3 by kernel_rfl] at hsz
 obtain ⟨fuel, hf⟩ := h
 obtain ⟨l⟩ := cs
 match l, hsz with
 | [c0, c1, c2], _ => exact mt_of_trod hf
end Go.Proofs.YtgbapkechngnmaaGreat
/- What a pattern says: a tree, and the texts of a tree; the builder's states say the same. No program in sight. -/
namespace Go.Proofs.YtgbapkechngnmaaGreat

inductive Re where
 | no
 | eps
 | set (S : Nat → Bool)
 | cat (a b : Re)
 | alt (a b : Re)
 | star (a : Re)
 | plus (a : Re)
 | opt (a : Re)
inductive Lr : Re → List Nat → Prop
 | eps : Lr .eps []
 | set {S : Nat → Bool} {c : Nat} : S c = true → Lr (.set S) [c]
 | cat {a b : Re} {x y : List Nat} : Lr a x → Lr b y → Lr (.cat a b) (x ++ y)
 | altl {a b : Re} {x : List Nat} : Lr a x → Lr (.alt a b) x
 | altr {a b : Re} {x : List Nat} : Lr b x → Lr (.alt a b) x
 | star0 {a : Re} : Lr (.star a) []
 | star1 {a : Re} {x y : List Nat} : Lr a x → Lr (.star a) y → Lr (.star a) (x ++ y)
 | plus {a : Re} {x y : List Nat} : Lr a x → Lr (.star a) y → Lr (.plus a) (x ++ y)
 | opt0 {a : Re} : Lr (.opt a) []
 | opt1 {a : Re} {x : List Nat} : Lr a x → Lr (.opt a) x
inductive Pa (sts : List St) : Nat → List Nat → Nat → Nat → Prop
 | refl (k : Nat) : Pa sts k [] k 0
 | free {j f k n : Nat} {cs : List Nat} {x : St} : sts[j]? = some x → f ∈ x.free → Pa sts f cs k n → Pa sts j cs k (n + 1)
 | byte {j k c n : Nat} {cs : List Nat} {x : St} : sts[j]? = some x → goB x c = true → Pa sts x.next cs k n → Pa sts j (c :: cs) k (n + 1)
theorem Pa.trans {sts : List St} {j k l n m : Nat} {x y : List Nat} (h : Pa sts j x k n) (h' : Pa sts k y l m) : Pa sts j (x ++ y) l (n + m) := by
 induction h with
 | refl => simpa using h'
 | free h1 h2 _ ih => rw [Nat.add_right_comm]; exact Pa.free h1 h2 (ih h')
 | byte h1 h2 _ ih => rw [Nat.add_right_comm]; exact Pa.byte h1 h2 (ih h')
theorem Pa.inv {sts : List St} {j g n : Nat} {cs : List Nat} (h : Pa sts j cs g n) : (cs = [] ∧ j = g) ∨ (∃ x f m, sts[j]? = some x ∧ f ∈ x.free ∧ Pa sts f cs g m) ∨ ∃ x c cs' m, cs = c :: cs' ∧ sts[j]? = some x ∧ goB x c = true ∧ Pa sts x.next cs' g m := by
 cases h with
 | refl => exact .inl ⟨rfl, rfl⟩
 | free h1 h2 h3 => exact .inr (.inl ⟨_, _, _, h1, h2, h3⟩)
 | byte h1 h2 h3 => exact .inr (.inr ⟨_, _, _, _, rfl, h1, h2, h3⟩)
def Shut (sts : List St) (R : Nat → Prop) : Prop := ∀ k, R k → ∀ x, sts[k]? = some x → (∀ g ∈ x.free, R g) ∧ (x.set.isSome = true → R x.next)
theorem goB_some {x : St} {c : Nat} (h : goB x c = true) : x.set.isSome = true := by
 unfold goB at h
 split at h
 ·rename_i f hf; rw [hf]; rfl
 ·cases h
theorem Pa.same {sts sts' : List St} {R : Nat → Prop} (hs : Shut sts R) (he : ∀ k, R k → sts'[k]? = sts[k]?) {j g n : Nat} {cs : List Nat} (h : Pa sts' j cs g n) (hj : R j) : Pa sts j cs g n := by
 induction h with
 | refl => exact .refl _
 | free h1 h2 _ ih => rw [he _ hj] at h1; exact .free h1 h2 (ih ((hs _ hj _ h1).1 _ h2))
 | byte h1 h2 _ ih => rw [he _ hj] at h1; exact .byte h1 h2 (ih ((hs _ hj _ h1).2 (goB_some h2)))
theorem Pa.more {sts sts' : List St} {R : Nat → Prop} (hs : Shut sts R) (he : ∀ k, R k → ∀ x, sts[k]? = some x → ∃ x', sts'[k]? = some x' ∧ (∀ g ∈ x.free, g ∈ x'.free) ∧ x'.set = x.set ∧ x'.next = x.next) {j g n : Nat} {cs : List Nat} (h : Pa sts j cs g n) (hj : R j) : Pa sts' j cs g n := by
 induction h with
 | refl => exact .refl _
 | free h1 h2 _ ih =>
  obtain ⟨x', e1, e2, _, _⟩ := he _ hj _ h1
  exact .free e1 (e2 _ h2) (ih ((hs _ hj _ h1).1 _ h2))
 | byte h1 h2 _ ih =>
  obtain ⟨x', e1, _, e3, e4⟩ := he _ hj _ h1
  refine .byte e1 (by unfold goB at h2 ⊢; rw [e3]; exact h2) ?_
  rw [e4]
  exact ih ((hs _ hj _ h1).2 (goB_some h2))
theorem Pa.exit {sts sts' : List St} {R : Nat → Prop} {t g : Nat} (hs : Shut sts R) (he : ∀ k, R k → k ≠ t → sts'[k]? = sts[k]?) (hg : R g → g = t) {j n : Nat} {cs : List Nat} (h : Pa sts' j cs g n) (hj : R j) :
  ∃ x y n1 n2, cs = x ++ y ∧ Pa sts j x t n1 ∧ Pa sts' t y g n2 ∧ n2 ≤ n := by
 induction h with
 | refl => 
  have := hg hj
  subst this
  exact ⟨[], [], 0, 0, rfl, .refl _, .refl _, Nat.le_refl _⟩
 | free h1 h2 h3 ih =>
  rename_i j f k n cs x
  by_cases hjt : j = t
  ·subst hjt
   exact ⟨[], cs, 0, n + 1, rfl, .refl _, .free h1 h2 h3, Nat.le_refl _⟩
  ·rw [he _ hj hjt] at h1
   obtain ⟨x1, y1, n1, n2, e1, e2, e3, e4⟩ := ih hg ((hs _ hj _ h1).1 _ h2)
   exact ⟨x1, y1, n1 + 1, n2, e1, .free h1 h2 e2, e3, by omega⟩
 | byte h1 h2 h3 ih =>
  rename_i j k c n cs x
  by_cases hjt : j = t
  ·subst hjt
   exact ⟨[], c :: cs, 0, n + 1, rfl, .refl _, .byte h1 h2 h3, Nat.le_refl _⟩
  ·rw [he _ hj hjt] at h1
   obtain ⟨x1, y1, n1, n2, e1, e2, e3, e4⟩ := ih hg ((hs _ hj _ h1).2 (goB_some h2))
   exact ⟨c :: x1, y1, n1 + 1, n2, by rw [e1]; rfl, .byte h1 h2 e2, e3, by omega⟩
theorem Pa.first {sts : List St} {t g n nx : Nat} {l cs : List Nat} (h : Pa sts t cs g n) (ht : sts[t]? = some ⟨none, nx, l⟩) : (cs = [] ∧ t = g) ∨ ∃ f ∈ l, ∃ m, m < n ∧ Pa sts f cs g m := by
 cases h with
 | refl => exact .inl ⟨rfl, rfl⟩
 | free h1 h2 h3 =>
  rw [ht] at h1
  obtain rfl := Option.some.inj h1
  exact .inr ⟨_, h2, _, Nat.lt_succ_self _, h3⟩
 | byte h1 h2 h3 =>
  rw [ht] at h1
  obtain rfl := Option.some.inj h1
  cases goB_some h2
theorem addF_look (l : List St) (f t j : Nat) : (addF l f t)[j]? = if j = f then (l[j]?).map (fun x => { x with free := x.free ++ [t] }) else l[j]? := by
 induction l generalizing f j with
 | nil => simp [addF]
 | cons x l ih =>
  cases f with
  | zero => cases j <;> simp [addF]
  | succ f => cases j with
   | zero => simp [addF]
   | succ j => simp only [addF, List.getElem?_cons_succ, ih]; simp
theorem addF_ne {l : List St} {f t j : Nat} (h : j ≠ f) : (addF l f t)[j]? = l[j]? := by rw [addF_look, if_neg h]
theorem addF_eq {l : List St} {f t : Nat} {x : St} (h : l[f]? = some x) : (addF l f t)[f]? = some { x with free := x.free ++ [t] } := by rw [addF_look, if_pos rfl, h]; rfl
structure Frg (sts : List St) (lo hi f t : Nat) (a : Re) : Prop where
 f0 : lo ≤ f
 f1 : f < hi
 t0 : lo ≤ t
 t1 : t < hi
 hl : hi ≤ sts.length
 shut : Shut sts (fun k => lo ≤ k ∧ k < hi)
 sink : sts[t]? = some ⟨none, 0, []⟩
 noin : ∀ k, lo ≤ k → k < hi → ∀ x, sts[k]? = some x → (∀ g ∈ x.free, g ≠ f) ∧ (x.set.isSome = true → x.next ≠ f)
 lang : ∀ cs, (∃ n, Pa sts f cs t n) ↔ Lr a cs
def nd : St := ⟨none, 0, []⟩
theorem Pa.sink {sts : List St} {t g n : Nat} {cs : List Nat} (h : Pa sts t cs g n) (ht : sts[t]? = some ⟨none, 0, []⟩) : cs = [] ∧ t = g := by
 rcases h.first ht with h1 | ⟨f, hf, _⟩
 ·exact h1
 ·cases hf
theorem frg_no (l : List St) : Frg (l ++ [nd, nd]) l.length (l.length + 2) l.length (l.length + 1) .no := by
 have g0 : (l ++ [nd, nd])[l.length]? = some ⟨none, 0, []⟩ := by rw [List.getElem?_append_right (Nat.le_refl _)]; simp [nd]
 have g1 : (l ++ [nd, nd])[l.length + 1]? = some ⟨none, 0, []⟩ := by rw [List.getElem?_append_right (by omega)]; simp [nd]
 have ge : ∀ k, l.length ≤ k → k < l.length + 2 → ∀ x, (l ++ [nd, nd])[k]? = some x → x = nd := fun k h1 h2 x hx => by
  rcases (show k = l.length ∨ k = l.length + 1 by omega) with rfl | rfl
  ·rw [g0] at hx; exact (Option.some.inj hx).symm
  ·rw [g1] at hx; exact (Option.some.inj hx).symm
 refine ⟨Nat.le_refl _, by omega, by omega, by omega, by simp, ?_, g1, ?_, ?_⟩
 ·rintro k ⟨h1, h2⟩ x hx
  rw [ge k h1 h2 x hx]
  exact ⟨(fun _ h => by cases h), (fun h => by cases h)⟩
 ·intro k h1 h2 x hx
  rw [ge k h1 h2 x hx]
  exact ⟨(fun _ h => by cases h), (fun h => by cases h)⟩
 ·intro cs
  constructor
  ·rintro ⟨n, h⟩
   have := (h.sink g0).2
   omega
  ·intro h; cases h
theorem frg_eps (l : List St) : Frg (l ++ [nd]) l.length (l.length + 1) l.length l.length .eps := by
 have g0 : (l ++ [nd])[l.length]? = some ⟨none, 0, []⟩ := by rw [List.getElem?_append_right (Nat.le_refl _)]; simp [nd]
 have ge : ∀ k, l.length ≤ k → k < l.length + 1 → ∀ x, (l ++ [nd])[k]? = some x → x = nd := fun k h1 h2 x hx => by
  obtain rfl : k = l.length := by omega
  rw [g0] at hx; exact (Option.some.inj hx).symm
 refine ⟨Nat.le_refl _, by omega, by omega, by omega, by simp, ?_, g0, ?_, ?_⟩
 ·rintro k ⟨h1, h2⟩ x hx
  rw [ge k h1 h2 x hx]
  exact ⟨(fun _ h => by cases h), (fun h => by cases h)⟩
 ·intro k h1 h2 x hx
  rw [ge k h1 h2 x hx]
  exact ⟨(fun _ h => by cases h), (fun h => by cases h)⟩
 ·intro cs
  constructor
  ·rintro ⟨n, h⟩
   rw [(h.sink g0).1]
   exact .eps
  ·intro h
   cases h
   exact ⟨0, .refl _⟩
theorem frg_set (l : List St) (S : Nat → Bool) : Frg (l ++ [⟨some S, l.length + 1, []⟩, nd]) l.length (l.length + 2) l.length (l.length + 1) (.set S) := by
 have g0 : (l ++ [⟨some S, l.length + 1, []⟩, nd])[l.length]? = some ⟨some S, l.length + 1, []⟩ := by rw [List.getElem?_append_right (Nat.le_refl _)]; simp
 have g1 : (l ++ [⟨some S, l.length + 1, []⟩, nd])[l.length + 1]? = some ⟨none, 0, []⟩ := by rw [List.getElem?_append_right (by omega)]; simp [nd]
 have ge : ∀ k, l.length ≤ k → k < l.length + 2 → ∀ x, (l ++ [⟨some S, l.length + 1, []⟩, nd])[k]? = some x → x = ⟨some S, l.length + 1, []⟩ ∨ x = nd := fun k h1 h2 x hx => by
  rcases (show k = l.length ∨ k = l.length + 1 by omega) with rfl | rfl
  ·rw [g0] at hx; exact .inl (Option.some.inj hx).symm
  ·rw [g1] at hx; exact .inr (Option.some.inj hx).symm
 refine ⟨Nat.le_refl _, by omega, by omega, by omega, by simp, ?_, g1, ?_, ?_⟩
 ·rintro k ⟨h1, h2⟩ x hx
  rcases ge k h1 h2 x hx with rfl | rfl
  ·exact ⟨(fun _ h => by cases h), fun _ => ⟨by simp, by simp⟩⟩
  ·exact ⟨(fun _ h => by cases h), (fun h => by cases h)⟩
 ·intro k h1 h2 x hx
  rcases ge k h1 h2 x hx with rfl | rfl
  ·exact ⟨(fun _ h => by cases h), fun _ => by simp⟩
  ·exact ⟨(fun _ h => by cases h), (fun h => by cases h)⟩
 ·intro cs
  constructor
  ·rintro ⟨n, h⟩
   rcases h.inv with ⟨_, e⟩ | ⟨x, f, m, h1, h2, _⟩ | ⟨x, c, cs', m, rfl, h1, h2, h3⟩
   ·omega
   ·rw [g0] at h1; obtain rfl := Option.some.inj h1; cases h2
   ·rw [g0] at h1
    obtain rfl := Option.some.inj h1
    rw [(h3.sink g1).1]
    exact .set h2
  ·intro h
   cases h with
   | set h => exact ⟨1, .byte g0 h (.refl _)⟩
theorem Frg.cat {sts0 sts1 : List St} {lo f t hi xf xt : Nat} {a b : Re} (h : Frg sts0 lo sts0.length f t a) (he : ∀ k, k < sts0.length → sts1[k]? = sts0[k]?) (hx : Frg sts1 sts0.length hi xf xt b) :
  Frg (addF sts1 t xf) lo hi f xt (.cat a b) := by
 have ht1 := h.t1
 have hf1 := h.f1
 have hf0 := h.f0
 have xf0 := hx.f0
 have xf1 := hx.f1
 have xt0 := hx.t0
 have gt : (addF sts1 t xf)[t]? = some ⟨none, 0, [xf]⟩ := by rw [addF_eq ((he t ht1).trans h.sink)]; rfl
 have go : ∀ k, k < sts0.length → k ≠ t → (addF sts1 t xf)[k]? = sts0[k]? := fun k hk hne => (addF_ne hne).trans (he k hk)
 have gx : ∀ k, sts0.length ≤ k → (addF sts1 t xf)[k]? = sts1[k]? := fun k hk => addF_ne (by omega)
 refine ⟨hf0, by omega, by have := h.f0; omega, hx.t1, by rw [addF_len]; exact hx.hl, ?_, by rw [gx _ xt0]; exact hx.sink, ?_, ?_⟩
 ·rintro k ⟨h1, h2⟩ x hxk
  by_cases hk : k < sts0.length
  ·by_cases hkt : k = t
   ·subst hkt
    rw [gt] at hxk
    obtain rfl := Option.some.inj hxk
    refine ⟨fun g hg => ?_, (fun h => by cases h)⟩
    rw [List.mem_singleton.1 hg]
    exact ⟨by omega, by omega⟩
   ·rw [go k hk hkt] at hxk
    obtain ⟨q1, q2⟩ := h.shut k ⟨h1, hk⟩ x hxk
    exact ⟨fun g hg => ⟨(q1 g hg).1, by have := (q1 g hg).2; omega⟩, fun hs => ⟨(q2 hs).1, by have := (q2 hs).2; omega⟩⟩
  ·rw [gx k (by omega)] at hxk
   obtain ⟨q1, q2⟩ := hx.shut k ⟨by omega, h2⟩ x hxk
   exact ⟨fun g hg => ⟨by have := (q1 g hg).1; omega, (q1 g hg).2⟩, fun hs => ⟨by have := (q2 hs).1; omega, (q2 hs).2⟩⟩
 ·intro k h1 h2 x hxk
  by_cases hk : k < sts0.length
  ·by_cases hkt : k = t
   ·subst hkt
    rw [gt] at hxk
    obtain rfl := Option.some.inj hxk
    refine ⟨fun g hg => ?_, (fun h => by cases h)⟩
    rw [List.mem_singleton.1 hg]
    omega
   ·rw [go k hk hkt] at hxk
    exact h.noin k h1 hk x hxk
  ·rw [gx k (by omega)] at hxk
   obtain ⟨q1, q2⟩ := hx.shut k ⟨by omega, h2⟩ x hxk
   exact ⟨fun g hg => by have := (q1 g hg).1; omega, fun hs => by have := (q2 hs).1; omega⟩
 ·intro cs
  constructor
  ·rintro ⟨n, hp⟩
   obtain ⟨x, y, n1, n2, rfl, p1, p2, _⟩ := hp.exit h.shut (fun k hk hne => go k hk.2 hne) (fun hg => absurd hg.2 (by omega)) ⟨hf0, hf1⟩
   rcases p2.first gt with ⟨_, e⟩ | ⟨g, hg, m, _, p3⟩
   ·omega
   ·rw [List.mem_singleton.1 hg] at p3
    exact .cat ((h.lang x).1 ⟨_, p1⟩) ((hx.lang y).1 ⟨_, p3.same hx.shut (fun k hk => gx k hk.1) ⟨xf0, xf1⟩⟩)
  ·intro hl
   cases hl with
   | cat l1 l2 =>
    obtain ⟨n1, p1⟩ := (h.lang _).2 l1
    obtain ⟨n2, p2⟩ := (hx.lang _).2 l2
    have q1 := p1.more (sts' := addF sts1 t xf) h.shut (fun k hk x hxk => by
     by_cases hkt : k = t
     ·subst hkt
      rw [h.sink] at hxk
      obtain rfl := Option.some.inj hxk
      exact ⟨_, gt, (fun _ h => by cases h), rfl, rfl⟩
     ·exact ⟨x, (go k hk.2 hkt).trans hxk, fun _ h => h, rfl, rfl⟩) ⟨hf0, hf1⟩
    have q2 := p2.same (sts := addF sts1 t xf) (sts' := sts1) (R := fun k => sts0.length ≤ k ∧ k < hi) (fun k hk x hxk => hx.shut k hk x ((gx k hk.1).symm.trans hxk)) (fun k hk => (gx k hk.1).symm) ⟨xf0, xf1⟩
    exact ⟨_, q1.trans (.free gt (List.mem_singleton.2 rfl) q2)⟩
theorem Frg.alt {sts0 sts1 : List St} {lo f t hi xf xt : Nat} {a b : Re} (h : Frg sts0 lo sts0.length f t a) (hft : f ≠ t) (he : ∀ k, k < sts0.length → sts1[k]? = sts0[k]?) (hx : Frg sts1 sts0.length hi xf xt b) :
  Frg (addF (addF sts1 f xf) xt t) lo hi f t (.alt a b) := by
 have ht1 := h.t1
 have hf1 := h.f1
 have hf0 := h.f0
 have ht0 := h.t0
 have xf0 := hx.f0
 have xf1 := hx.f1
 have xt0 := hx.t0
 have xt1 := hx.t1
 obtain ⟨z, hz⟩ : ∃ z, sts0[f]? = some z := ⟨_, List.getElem?_eq_getElem hf1⟩
 obtain ⟨zs, zn, zf⟩ := z
 have gf : (addF (addF sts1 f xf) xt t)[f]? = some ⟨zs, zn, zf ++ [xf]⟩ := by rw [addF_ne (by omega), addF_eq ((he f hf1).trans hz)]
 have gxt : (addF (addF sts1 f xf) xt t)[xt]? = some ⟨none, 0, [t]⟩ := by
  rw [addF_eq (x := ⟨none, 0, []⟩) (by rw [addF_ne (by omega)]; exact hx.sink)]; rfl
 have go : ∀ k, k < sts0.length → k ≠ f → (addF (addF sts1 f xf) xt t)[k]? = sts0[k]? := fun k hk hne => by rw [addF_ne (by omega), addF_ne hne, he k hk]
 have gx : ∀ k, sts0.length ≤ k → k ≠ xt → (addF (addF sts1 f xf) xt t)[k]? = sts1[k]? := fun k hk hne => by rw [addF_ne hne, addF_ne (by omega)]
 have gt : (addF (addF sts1 f xf) xt t)[t]? = some ⟨none, 0, []⟩ := (go t ht1 (Ne.symm hft)).trans h.sink
 obtain ⟨sf1, sf2⟩ := h.shut f ⟨hf0, hf1⟩ _ hz
 obtain ⟨nf1, nf2⟩ := h.noin f hf0 hf1 _ hz
 refine ⟨hf0, by omega, ht0, by omega, by rw [addF_len, addF_len]; exact hx.hl, ?_, gt, ?_, ?_⟩
 ·rintro k ⟨h1, h2⟩ x hxk
  by_cases hk : k < sts0.length
  ·by_cases hkf : k = f
   ·subst hkf
    rw [gf] at hxk
    obtain rfl := Option.some.inj hxk
    refine ⟨fun g hg => ?_, fun hs => ⟨(sf2 hs).1, by have := (sf2 hs).2; dsimp only at this ⊢; omega⟩⟩
    rcases List.mem_append.1 hg with hg | hg
    ·exact ⟨(sf1 g hg).1, by have := (sf1 g hg).2; omega⟩
    ·rw [List.mem_singleton.1 hg]
     exact ⟨by omega, by omega⟩
   ·rw [go k hk hkf] at hxk
    obtain ⟨q1, q2⟩ := h.shut k ⟨h1, hk⟩ x hxk
    exact ⟨fun g hg => ⟨(q1 g hg).1, by have := (q1 g hg).2; omega⟩, fun hs => ⟨(q2 hs).1, by have := (q2 hs).2; omega⟩⟩
  ·by_cases hkx : k = xt
   ·subst hkx
    rw [gxt] at hxk
    obtain rfl := Option.some.inj hxk
    refine ⟨fun g hg => ?_, (fun h => by cases h)⟩
    rw [List.mem_singleton.1 hg]
    exact ⟨ht0, by omega⟩
   ·rw [gx k (by omega) hkx] at hxk
    obtain ⟨q1, q2⟩ := hx.shut k ⟨by omega, h2⟩ x hxk
    exact ⟨fun g hg => ⟨by have := (q1 g hg).1; omega, (q1 g hg).2⟩, fun hs => ⟨by have := (q2 hs).1; omega, (q2 hs).2⟩⟩
 ·intro k h1 h2 x hxk
  by_cases hk : k < sts0.length
  ·by_cases hkf : k = f
   ·subst hkf
    rw [gf] at hxk
    obtain rfl := Option.some.inj hxk
    refine ⟨fun g hg => ?_, nf2⟩
    rcases List.mem_append.1 hg with hg | hg
    ·exact nf1 g hg
    ·rw [List.mem_singleton.1 hg]; omega
   ·rw [go k hk hkf] at hxk
    exact h.noin k h1 hk x hxk
  ·by_cases hkx : k = xt
   ·subst hkx
    rw [gxt] at hxk
    obtain rfl := Option.some.inj hxk
    refine ⟨fun g hg => ?_, (fun h => by cases h)⟩
    rw [List.mem_singleton.1 hg]
    exact Ne.symm hft
   ·rw [gx k (by omega) hkx] at hxk
    obtain ⟨q1, q2⟩ := hx.shut k ⟨by omega, h2⟩ x hxk
    exact ⟨fun g hg => by have := (q1 g hg).1; omega, fun hs => by have := (q2 hs).1; omega⟩
 ·intro cs
  have shutF : Shut sts0 (fun k => (lo ≤ k ∧ k < sts0.length) ∧ k ≠ f) := fun k hk x hxk => by
   obtain ⟨q1, q2⟩ := h.shut k hk.1 x hxk
   obtain ⟨q3, q4⟩ := h.noin k hk.1.1 hk.1.2 x hxk
   exact ⟨fun g hg => ⟨q1 g hg, q3 g hg⟩, fun hs => ⟨q2 hs, q4 hs⟩⟩
  constructor
  ·rintro ⟨n, hp⟩
   cases hp with
   | refl => exact absurd rfl hft
   | free h1 h2 h3 =>
    rw [gf] at h1
    obtain rfl := Option.some.inj h1
    rcases List.mem_append.1 h2 with hg | hg
    ·exact .altl ((h.lang cs).1 ⟨_, .free hz hg (h3.same shutF (fun k hk => go k hk.1.2 hk.2) ⟨sf1 _ hg, nf1 _ hg⟩)⟩)
    ·rw [List.mem_singleton.1 hg] at h3
     obtain ⟨x, y, n1, n2, rfl, p1, p2, _⟩ := h3.exit hx.shut (fun k hk hne => gx k hk.1 hne) (fun hg => absurd hg.1 (by omega)) ⟨xf0, xf1⟩
     rcases p2.first gxt with ⟨_, e⟩ | ⟨g, hg, m, _, p3⟩
     ·omega
     ·rw [List.mem_singleton.1 hg] at p3
      rw [(p3.sink gt).1, List.append_nil]
      exact .altr ((hx.lang x).1 ⟨_, p1⟩)
   | byte h1 h2 h3 =>
    rw [gf] at h1
    obtain rfl := Option.some.inj h1
    have hs := goB_some h2
    exact .altl ((h.lang _).1 ⟨_, .byte hz h2 (h3.same shutF (fun k hk => go k hk.1.2 hk.2) ⟨sf2 hs, nf2 hs⟩)⟩)
  ·intro hl
   cases hl with
   | altl l1 =>
    obtain ⟨n1, p1⟩ := (h.lang _).2 l1
    exact ⟨_, p1.more (sts' := addF (addF sts1 f xf) xt t) h.shut (fun k hk x hxk => by
     by_cases hkt : k = f
     ·subst hkt
      rw [hz] at hxk
      obtain rfl := Option.some.inj hxk
      exact ⟨_, gf, fun _ h => List.mem_append_left _ h, rfl, rfl⟩
     ·exact ⟨x, (go k hk.2 hkt).trans hxk, fun _ h => h, rfl, rfl⟩) ⟨hf0, hf1⟩⟩
   | altr l2 =>
    obtain ⟨n2, p2⟩ := (hx.lang _).2 l2
    have q2 := p2.more (sts' := addF (addF sts1 f xf) xt t) hx.shut (fun k hk x hxk => by
     by_cases hkt : k = xt
     ·subst hkt
      rw [hx.sink] at hxk
      obtain rfl := Option.some.inj hxk
      exact ⟨_, gxt, (fun _ h => by cases h), rfl, rfl⟩
     ·exact ⟨x, (gx k hk.1 hkt).trans hxk, fun _ h => h, rfl, rfl⟩) ⟨xf0, xf1⟩
    have q3 := Pa.free gf (List.mem_append_right _ (List.mem_singleton.2 rfl)) (q2.trans (.free gxt (List.mem_singleton.2 rfl) (.refl t)))
    rw [List.append_nil] at q3
    exact ⟨_, q3⟩
def postR : Bool → Bool → Re → Re
 | true, true, a => .star a
 | false, true, a => .plus a
 | true, false, a => .opt a
 | false, false, a => a
theorem Frg.post {sts0 sts' : List St} {lo xf xt : Nat} {a : Re} (h : Frg sts0 lo sts0.length xf xt a) (skip again : Bool)
  (hlen : sts'.length = sts0.length + 2) (go : ∀ k, k < sts0.length → k ≠ xt → sts'[k]? = sts0[k]?)
  (gF : sts'[sts0.length]? = some ⟨none, 0, [xf] ++ (if skip = true then [sts0.length + 1] else [])⟩)
  (gx : sts'[xt]? = some ⟨none, 0, [sts0.length + 1] ++ (if again = true then [xf] else [])⟩)
  (gT : sts'[sts0.length + 1]? = some ⟨none, 0, []⟩) (r : Re)
  (hr : r = postR skip again a) :
  Frg sts' lo (sts0.length + 2) sts0.length (sts0.length + 1) r := by
 have f0 := h.f0
 have f1 := h.f1
 have t0 := h.t0
 have t1 := h.t1
 have one : ∀ {cs n}, Pa sts' xf cs (sts0.length + 1) n → ∃ x y, cs = x ++ y ∧ Lr a x ∧ (y = [] ∨ (again = true ∧ ∃ m, m < n ∧ Pa sts' xf y (sts0.length + 1) m)) := by
  intro cs n hp
  obtain ⟨x, y, n1, n2, rfl, p1, p2, hn⟩ := hp.exit h.shut (fun k hk hne => go k hk.2 hne) (fun hg => absurd hg.2 (by omega)) ⟨f0, f1⟩
  refine ⟨x, y, rfl, (h.lang x).1 ⟨_, p1⟩, ?_⟩
  rcases p2.first gx with ⟨_, e⟩ | ⟨g, hg, m, hm, p3⟩
  ·omega
  ·rcases List.mem_append.1 hg with hg | hg
   ·rw [List.mem_singleton.1 hg] at p3
    exact .inl (p3.sink gT).1
   ·split at hg
    ·rename_i ha
     rw [List.mem_singleton.1 hg] at p3
     exact .inr ⟨ha, m, by omega, p3⟩
    ·cases hg
 have many : ∀ n, ∀ cs, Pa sts' xf cs (sts0.length + 1) n → ∃ x y, cs = x ++ y ∧ Lr a x ∧ (again = false → y = []) ∧ Lr (.star a) y := by
  intro n
  induction n using Nat.strongRecOn with
  | ind n ih =>
   intro cs hp
   obtain ⟨x, y, e, l1, h1 | ⟨h1, m, hm, p3⟩⟩ := one hp
   ·subst h1; exact ⟨x, [], e, l1, fun _ => rfl, .star0⟩
   ·obtain ⟨x', y', e', l1', _, l3⟩ := ih m hm y p3
    exact ⟨x, y, e, l1, (fun h => by rw [h1] at h; cases h), by rw [e']; exact .star1 l1' l3⟩
 have up : ∀ {x n}, Pa sts0 xf x xt n → Pa sts' xf x xt n := fun p => p.more h.shut (fun k hk x hxk => by
  by_cases hkt : k = xt
  ·subst hkt
   rw [h.sink] at hxk
   obtain rfl := Option.some.inj hxk
   exact ⟨_, gx, (fun _ h => by cases h), rfl, rfl⟩
  ·exact ⟨x, (go k hk.2 hkt).trans hxk, fun _ h => h, rfl, rfl⟩) ⟨f0, f1⟩
 have out : ∀ {x}, Lr a x → ∃ n, Pa sts' xf x (sts0.length + 1) n := fun {x} l => by
  obtain ⟨n, p⟩ := (h.lang x).2 l
  have := (up p).trans (.free gx (List.mem_append_left _ (List.mem_singleton.2 rfl)) (.refl _))
  rw [List.append_nil] at this
  exact ⟨_, this⟩
 have loop : ∀ {x y n}, again = true → Lr a x → Pa sts' xf y (sts0.length + 1) n → ∃ n, Pa sts' xf (x ++ y) (sts0.length + 1) n := fun {x y n} ha l p2 => by
  obtain ⟨n, p⟩ := (h.lang x).2 l
  exact ⟨_, (up p).trans (.free gx (List.mem_append_right _ (by rw [ha]; exact List.mem_singleton.2 rfl)) p2)⟩
 have loops : again = true → ∀ {r y}, Lr r y → r = .star a → ∀ {x}, Lr a x → ∃ n, Pa sts' xf (x ++ y) (sts0.length + 1) n := fun ha r y l => by
  induction l with
  | star0 => intro _ x lx; rw [List.append_nil]; exact out lx
  | star1 l1 _ _ ih2 =>
   intro e x lx
   cases e
   obtain ⟨n, p⟩ := ih2 rfl l1
   exact loop ha lx p
  | _ => intro e; cases e
 refine ⟨by omega, by omega, by omega, by omega, by omega, ?_, gT, ?_, ?_⟩
 ·rintro k ⟨h1, h2⟩ x hxk
  rcases (show (k < sts0.length ∧ k ≠ xt) ∨ k = xt ∨ k = sts0.length ∨ k = sts0.length + 1 by omega) with ⟨hk, hkt⟩ | rfl | rfl | rfl
  ·rw [go k hk hkt] at hxk
   obtain ⟨q1, q2⟩ := h.shut k ⟨h1, hk⟩ x hxk
   exact ⟨fun g hg => ⟨(q1 g hg).1, by have := (q1 g hg).2; omega⟩, fun hs => ⟨(q2 hs).1, by have := (q2 hs).2; omega⟩⟩
  ·rw [gx] at hxk
   obtain rfl := Option.some.inj hxk
   refine ⟨fun g hg => ?_, (fun h => by cases h)⟩
   rcases List.mem_append.1 hg with hg | hg
   ·rw [List.mem_singleton.1 hg]; exact ⟨by omega, by omega⟩
   ·split at hg
    ·rw [List.mem_singleton.1 hg]; exact ⟨by omega, by omega⟩
    ·cases hg
  ·rw [gF] at hxk
   obtain rfl := Option.some.inj hxk
   refine ⟨fun g hg => ?_, (fun h => by cases h)⟩
   rcases List.mem_append.1 hg with hg | hg
   ·rw [List.mem_singleton.1 hg]; exact ⟨by omega, by omega⟩
   ·split at hg
    ·rw [List.mem_singleton.1 hg]; exact ⟨by omega, by omega⟩
    ·cases hg
  ·rw [gT] at hxk
   obtain rfl := Option.some.inj hxk
   exact ⟨(fun _ h => by cases h), (fun h => by cases h)⟩
 ·intro k h1 h2 x hxk
  rcases (show (k < sts0.length ∧ k ≠ xt) ∨ k = xt ∨ k = sts0.length ∨ k = sts0.length + 1 by omega) with ⟨hk, hkt⟩ | rfl | rfl | rfl
  ·rw [go k hk hkt] at hxk
   obtain ⟨q1, q2⟩ := h.shut k ⟨h1, hk⟩ x hxk
   exact ⟨fun g hg => by have := (q1 g hg).2; omega, fun hs => by have := (q2 hs).2; omega⟩
  ·rw [gx] at hxk
   obtain rfl := Option.some.inj hxk
   refine ⟨fun g hg => ?_, (fun h => by cases h)⟩
   rcases List.mem_append.1 hg with hg | hg
   ·rw [List.mem_singleton.1 hg]; omega
   ·split at hg
    ·rw [List.mem_singleton.1 hg]; omega
    ·cases hg
  ·rw [gF] at hxk
   obtain rfl := Option.some.inj hxk
   refine ⟨fun g hg => ?_, (fun h => by cases h)⟩
   rcases List.mem_append.1 hg with hg | hg
   ·rw [List.mem_singleton.1 hg]; omega
   ·split at hg
    ·rw [List.mem_singleton.1 hg]; omega
    ·cases hg
  ·rw [gT] at hxk
   obtain rfl := Option.some.inj hxk
   exact ⟨(fun _ h => by cases h), (fun h => by cases h)⟩
 ·intro cs
  have hin : ∀ {n}, Pa sts' xf cs (sts0.length + 1) n → ∃ n, Pa sts' sts0.length cs (sts0.length + 1) n := fun p => ⟨_, .free gF (List.mem_append_left _ (List.mem_singleton.2 rfl)) p⟩
  constructor
  ·rintro ⟨n, hp⟩
   rcases hp.first gF with ⟨_, e⟩ | ⟨g, hg, m, _, p3⟩
   ·omega
   ·rcases List.mem_append.1 hg with hg | hg
    ·rw [List.mem_singleton.1 hg] at p3
     obtain ⟨x, y, rfl, l1, l2, l3⟩ := many _ _ p3
     subst hr
     cases skip <;> cases again
     ·rw [l2 rfl, List.append_nil]; exact l1
     ·exact .plus l1 l3
     ·rw [l2 rfl, List.append_nil]; exact .opt1 l1
     ·exact .star1 l1 l3
    ·split at hg
     ·rename_i hs
      rw [List.mem_singleton.1 hg] at p3
      rw [(p3.sink gT).1]
      subst hr
      rw [hs]
      cases again
      ·exact .opt0
      ·exact .star0
     ·cases hg
  ·intro hl
   subst hr
   have hskip : skip = true → ∃ n, Pa sts' sts0.length [] (sts0.length + 1) n := fun hs => ⟨_, .free gF (List.mem_append_right _ (by rw [hs]; exact List.mem_singleton.2 rfl)) (.refl _)⟩
   cases skip <;> cases again
   ·obtain ⟨n, p⟩ := out hl; exact hin p
   ·cases hl with
    | plus l1 l2 => obtain ⟨n, p⟩ := loops rfl l2 rfl l1; exact hin p
   ·cases hl with
    | opt0 => exact hskip rfl
    | opt1 l => obtain ⟨n, p⟩ := out l; exact hin p
   ·cases hl with
    | star0 => exact hskip rfl
    | star1 l1 l2 => obtain ⟨n, p⟩ := loops rfl l2 rfl l1; exact hin p
end Go.Proofs.YtgbapkechngnmaaGreat
/- The tree of a pattern; the builder's states fit its texts. No program in sight. -/
namespace Go.Proofs.YtgbapkechngnmaaGreat

def timesR (s : ByteArray) (b : Bs) (a : Re) : Re := match peekM s b with
  | none => a
  | some c => if c = 42 then .star a else if c = 43 then .plus a else if c = 63 then .opt a else a
def reM (s : ByteArray) : Nat → Md → Re → Nat → Bs → Re
  | 0, _, acc, _, _ => acc
  | n + 1, .either, _, d, b => reM s n (.alts (b.sts.length, b.sts.length + 1)) .no d (nodeM (nodeM b))
  | n + 1, .alts p, acc, d, b =>
    let r := runM s n .row d b
    let a := Re.alt acc (reM s n .row .no d b)
    let b2 := freeM (freeM r.1 p.1 r.2.1) r.2.2 p.2
    if peekM s b2 = some 124 then reM s n (.alts p) a d (stepM b2) else a
  | n + 1, .row, _, d, b => reM s n (.parts (b.sts.length, b.sts.length)) .eps d (nodeM b)
  | n + 1, .parts p, acc, d, b =>
    match peekM s b with
    | none => acc
    | some c => if c = 124 ∨ c = 41 then acc else
      let r := runM s n .atom d b
      let t := timesM s r.1 r.2
      reM s n (.parts (p.1, t.2.2)) (.cat acc (timesR s r.1 (reM s n .atom .no d b))) d (freeM t.1 p.2 t.2.1)
  | n + 1, .atom, _, d, b =>
    let c := byteM s b.pos
    let b1 := stepM b
    if c = 40 then
      (if d = 8 then .set noS else reM s n .either .no (d + 1) b1)
    else if c = 91 then .set (classM s b1).2
    else if c = 46 then .set (turnS noS)
    else if c = 92 then
      (match peekM s b1 with
       | none => .set (oneS 0)
       | some e => .set (oneS e))
    else if oddB c = true then .set noS
    else .set (oneS c)
def Und : Md → Re → Bs → Nat → Prop
  | .alts p, acc, b, lo => Frg b.sts lo b.sts.length p.1 p.2 acc ∧ p.1 ≠ p.2
  | .parts p, acc, b, lo => Frg b.sts lo b.sts.length p.1 p.2 acc
  | _, _, b, lo => lo = b.sts.length
structure Made (b : Bs) (lo : Nat) (r : Bs × (Nat × Nat)) (a : Re) : Prop where
  old : ∀ k, k < lo → r.1.sts[k]? = b.sts[k]?
  frg : Frg r.1.sts lo r.1.sts.length r.2.1 r.2.2 a
theorem node_sts (b : Bs) : (nodeM b).sts = b.sts ++ [nd] := rfl
theorem node2_sts (b : Bs) : (nodeM (nodeM b)).sts = b.sts ++ [nd, nd] := by rw [node_sts, node_sts, List.append_assoc]; rfl
theorem one_made (b0 b : Bs) (S : Nat → Bool) (h : b.sts = b0.sts) : Made b0 b0.sts.length (oneM b S) (.set S) := by
  rw [← h]
  refine ⟨fun k hk => ?_, ?_⟩
  · rw [← h]; exact List.getElem?_append_left hk
  · have := frg_set b.sts S
    have hl : (oneM b S).1.sts.length = b.sts.length + 2 := by simp [oneM]
    rw [hl]
    exact this
theorem app2_old {l : List St} {x y : St} {k : Nat} (h : k < l.length) : (l ++ [x, y])[k]? = l[k]? := List.getElem?_append_left h
theorem app2_0 (l : List St) (x y : St) : (l ++ [x, y])[l.length]? = some x := by rw [List.getElem?_append_right (Nat.le_refl _)]; simp
theorem app2_1 (l : List St) (x y : St) : (l ++ [x, y])[l.length + 1]? = some y := by rw [List.getElem?_append_right (by omega)]; simp
theorem times_made {s : ByteArray} {b0 : Bs} {r : Bs × (Nat × Nat)} {a : Re} (h : Made b0 b0.sts.length r a) : Made b0 b0.sts.length (timesM s r.1 r.2) (timesR s r.1 a) := by
  obtain ⟨b, x⟩ := r
  obtain ⟨old, frg⟩ := h
  dsimp only at old frg ⊢
  unfold timesM timesR
  cases hp : peekM s b with
  | none => exact ⟨old, frg⟩
  | some c =>
    dsimp only
    by_cases hpo : postB c = true
    · rw [if_pos hpo]
      have x0 := frg.f0
      have x1 := frg.f1
      have y0 := frg.t0
      have y1 := frg.t1
      have hsx : (stepM b).sts = b.sts := rfl
      -- the states behind the steps
      have key : ∀ (skip again : Bool) (B : Bs), B.sts = (let l1 := addF (addF (b.sts ++ [nd, nd]) b.sts.length x.1) x.2 (b.sts.length + 1)
          let l2 := if skip = true then addF l1 b.sts.length (b.sts.length + 1) else l1
          if again = true then addF l2 x.2 x.1 else l2) →
          Made b0 b0.sts.length (B, (b.sts.length, b.sts.length + 1)) (postR skip again a) := by
        intro skip again B hB
        dsimp only at hB
        have hne : b.sts.length ≠ x.2 := by omega
        have hold : ∀ k, k < b.sts.length → k ≠ x.2 → B.sts[k]? = b.sts[k]? := by
          intro k hk hkx
          rw [hB]
          cases skip <;> cases again <;> simp only [Bool.false_eq_true, if_false, if_true] <;> (repeat rw [addF_ne (by omega)]) <;> exact app2_old hk
        refine ⟨fun k hk => ?_, ?_⟩
        · exact (hold k (by omega) (by omega)).trans (old k hk)
        · have hlen : B.sts.length = b.sts.length + 2 := by
            rw [hB]
            cases skip <;> cases again <;> simp [addF_len]
          rw [hlen]
          refine Frg.post frg skip again hlen hold ?_ ?_ ?_ _ rfl
          · rw [hB]
            have g0 := addF_eq (t := x.1) (app2_0 b.sts nd nd)
            cases skip <;> cases again <;> simp only [Bool.false_eq_true, if_false, if_true]
            · rw [addF_ne hne]; exact g0
            · rw [addF_ne hne, addF_ne hne]; exact g0
            · rw [addF_eq (x := ⟨none, 0, [x.1]⟩) (by rw [addF_ne hne]; exact g0)]
            · rw [addF_ne hne, addF_eq (x := ⟨none, 0, [x.1]⟩) (by rw [addF_ne hne]; exact g0)]
          · rw [hB]
            have g0 : (addF (addF (b.sts ++ [nd, nd]) b.sts.length x.1) x.2 (b.sts.length + 1))[x.2]? = some ⟨none, 0, [b.sts.length + 1]⟩ := by
              rw [addF_eq (x := ⟨none, 0, []⟩) (by rw [addF_ne (Ne.symm hne), app2_old y1]; exact frg.sink)]; rfl
            cases skip <;> cases again <;> simp only [Bool.false_eq_true, if_false, if_true]
            · exact g0
            · rw [addF_eq g0]
            · rw [addF_ne (Ne.symm hne)]; exact g0
            · rw [addF_eq (by rw [addF_ne (Ne.symm hne)]; exact g0)]
          · rw [hB]
            cases skip <;> cases again <;> simp only [Bool.false_eq_true, if_false, if_true] <;> (repeat rw [addF_ne (by omega)]) <;> exact app2_1 _ _ _
      rcases (show c = 42 ∨ c = 43 ∨ c = 63 by simp only [postB, Bool.or_eq_true, decide_eq_true_eq] at hpo; omega) with rfl | rfl | rfl
      · exact key true true _ (by simp [freeM, node2_sts, stepM])
      · exact key false true _ (by simp [freeM, node2_sts, stepM])
      · exact key true false _ (by simp [freeM, node2_sts, stepM])
    · rw [if_neg hpo]
      have : c ≠ 42 ∧ c ≠ 43 ∧ c ≠ 63 := by simp only [postB, Bool.or_eq_true, decide_eq_true_eq] at hpo; omega
      rw [if_neg this.1, if_neg this.2.1, if_neg this.2.2]
      exact ⟨old, frg⟩
theorem reM_made (s : ByteArray) (n : Nat) : ∀ (md : Md) (acc : Re) (d : Nat) (b : Bs) (lo : Nat), d ≤ 8 → b.pos ≤ s.size + 12 - d → (md = .atom → b.pos < s.size) → partOk md b → fuelM s b md ≤ n → Und md acc b lo → Made b lo (runM s n md d b) (reM s n md acc d b) := by
  induction n with
  | zero => intro md acc d b lo _ _ _ _ hn; cases md <;> simp [fuelM] at hn
  | succ n ih =>
    intro md acc d b lo hd hp ha hk hn hu
    cases md with
    | either =>
      simp only [fuelM] at hn
      obtain rfl : lo = b.sts.length := hu
      rw [runM, reM]
      have h := ih (.alts (b.sts.length, b.sts.length + 1)) .no d (nodeM (nodeM b)) b.sts.length hd hp (fun h => by cases h) ⟨by simp [nodeM], by simp [nodeM]⟩ (by simp only [fuelM, nodeM]; omega)
        ⟨by rw [node2_sts]; have := frg_no b.sts; simpa using this, by simp⟩
      exact ⟨fun k hk => by rw [h.old k hk, node2_sts]; exact app2_old hk, h.frg⟩
    | alts p =>
      simp only [fuelM] at hn
      obtain ⟨hp1, hp2⟩ := hk
      obtain ⟨hf, hne⟩ := hu
      have ok := runM_ok s n .row d b hd hp (fun h => by cases h) trivial (by simp only [fuelM]; omega)
      have h1 := ih .row .no d b b.sts.length hd hp (fun h => by cases h) trivial (by simp only [fuelM]; omega) rfl
      obtain ⟨g1, q1, q2, q3, _⟩ := ok
      have e : ∀ b f t, (freeM b f t).sts.length = b.sts.length := fun b f t => by simp [freeM, addF_len]
      have hgl := g1.len
      have hgp := g1.pos
      have hpp : (freeM (freeM (runM s n .row d b).1 p.1 (runM s n .row d b).2.1) (runM s n .row d b).2.2 p.2).pos = (runM s n .row d b).1.pos := rfl
      have hl2 : (freeM (freeM (runM s n .row d b).1 p.1 (runM s n .row d b).2.1) (runM s n .row d b).2.2 p.2).sts.length = (runM s n .row d b).1.sts.length := by rw [e, e]
      have h2 := hf.alt hne h1.old h1.frg
      have hfs : (freeM (freeM (runM s n .row d b).1 p.1 (runM s n .row d b).2.1) (runM s n .row d b).2.2 p.2).sts = addF (addF (runM s n .row d b).1.sts p.1 (runM s n .row d b).2.1) (runM s n .row d b).2.2 p.2 := rfl
      rw [← hfs] at h2
      have hold : ∀ k, k < lo → (freeM (freeM (runM s n .row d b).1 p.1 (runM s n .row d b).2.1) (runM s n .row d b).2.2 p.2).sts[k]? = b.sts[k]? := fun k hk => by
        have a1 := h1.frg.t0
        have a2 := hf.f0
        have a3 := hf.f1
        rw [hfs, addF_ne (by omega), addF_ne (by omega)]
        exact h1.old k (by omega)
      rw [runM, reM]
      generalize (freeM (freeM (runM s n .row d b).1 p.1 (runM s n .row d b).2.1) (runM s n .row d b).2.2 p.2) = b2 at *
      rw [← hl2] at h2
      split
      · rename_i hpk
        have hps := (peekM_some hpk).2.1
        have h3 := ih (.alts p) (.alt acc (reM s n .row .no d b)) d (stepM b2) lo hd (by simp only [stepM]; omega) (fun h => by cases h) ⟨by simp only [stepM]; omega, by simp only [stepM]; omega⟩ (by simp only [fuelM, stepM]; omega) ⟨h2, hne⟩
        exact ⟨fun k hk => (h3.old k hk).trans (hold k hk), h3.frg⟩
      · exact ⟨hold, h2⟩
    | row =>
      simp only [fuelM] at hn
      obtain rfl : lo = b.sts.length := hu
      rw [runM, reM]
      have h := ih (.parts (b.sts.length, b.sts.length)) .eps d (nodeM b) b.sts.length hd hp (fun h => by cases h) ⟨by simp [nodeM], by simp [nodeM]⟩ (by simp only [fuelM, nodeM]; omega)
        (by show Frg _ _ _ _ _ _; rw [node_sts]; have := frg_eps b.sts; simpa using this)
      exact ⟨fun k hk => by rw [h.old k hk, node_sts]; exact List.getElem?_append_left hk, h.frg⟩
    | parts p =>
      simp only [fuelM] at hn
      obtain ⟨hp1, hp2⟩ := hk
      have hf : Frg b.sts lo b.sts.length p.1 p.2 acc := hu
      rw [runM, reM]
      cases hc : peekM s b with
      | none => exact ⟨fun _ _ => rfl, hf⟩
      | some c =>
        dsimp only
        split
        · exact ⟨fun _ _ => rfl, hf⟩
        · have hps := (peekM_some hc).2.1
          have ok := runM_ok s n .atom d b hd hp (fun _ => hps) trivial (by simp only [fuelM]; omega)
          have h1 := ih .atom .no d b b.sts.length hd hp (fun _ => hps) trivial (by simp only [fuelM]; omega) rfl
          obtain ⟨g1, q1, q2, q3, q4⟩ := ok
          obtain ⟨q5, q6⟩ := q4 rfl
          have gt := gd_times s (runM s n .atom d b).1 (runM s n .atom d b).2
          have pt := times_part s (runM s n .atom d b).1 (runM s n .atom d b).2 ⟨q1, q2⟩
          have h2 := times_made (s := s) h1
          have tp : (timesM s (runM s n .atom d b).1 (runM s n .atom d b).2).1.pos ≤ s.size + 12 - d := by
            unfold timesM
            split
            · exact q3
            · rename_i c' hc'
              have := (peekM_some hc').2.1
              split
              · have e : ∀ b f t, (freeM b f t).pos = b.pos := fun _ _ _ => rfl
                dsimp only
                split <;> split <;> simp only [e, nodeM, stepM] <;> omega
              · exact q3
          generalize timesR s (runM s n .atom d b).1 (reM s n .atom .no d b) = a at *
          generalize hr : runM s n .atom d b = r at *
          generalize ht : timesM s r.1 r.2 = t at *
          have hfl : (freeM t.1 p.2 t.2.1).sts.length = t.1.sts.length := by simp [freeM, addF_len]
          have hgl := gt.len
          have hgp := gt.pos
          have h1l := g1.len
          have h3 := hf.cat h2.old h2.frg
          have hfs : (freeM t.1 p.2 t.2.1).sts = addF t.1.sts p.2 t.2.1 := rfl
          rw [← hfs, ← hfl] at h3
          have h4 := ih (.parts (p.1, t.2.2)) (.cat acc a) d (freeM t.1 p.2 t.2.1) lo hd tp (fun h => by cases h) ⟨by rw [hfl]; show p.1 < _; omega, by rw [hfl]; exact pt.2⟩ (by simp only [fuelM, freeM]; omega) h3
          refine ⟨fun k hk => ?_, h4.frg⟩
          have a2 := hf.t0
          have a3 := hf.t1
          rw [h4.old k hk, hfs, addF_ne (by omega)]
          exact h2.old k (by omega)
    | atom =>
      simp only [fuelM] at hn
      obtain rfl : lo = b.sts.length := hu
      have hps := ha rfl
      rw [runM, reM]
      dsimp only
      split
      · split
        · exact one_made _ _ _ (by rw [failM_sts]; rfl)
        · have h := ih .either .no (d + 1) (stepM b) b.sts.length (by omega) (by simp only [stepM]; omega) (fun h => by cases h) trivial (by simp only [fuelM, stepM]; omega) rfl
          exact ⟨fun k hk => by dsimp only; rw [closeM_sts]; exact h.old k hk, by dsimp only; rw [closeM_sts]; exact h.frg⟩
      · split
        · exact one_made _ _ _ (by rw [classM_len]; rfl)
        · split
          · exact one_made _ _ _ rfl
          · split
            · cases hc : peekM s (stepM b) with
              | none => exact one_made b _ _ (by show (failM (stepM b) 2).sts = _; rw [failM_sts]; rfl)
              | some e => exact one_made b _ _ rfl
            · split
              · exact one_made _ _ _ (by rw [failM_sts]; rfl)
              · exact one_made _ _ _ rfl
def reT (p : ByteArray) : Re := reM p (8 * p.size + 5) .either .no 0 bs0
theorem FR_pa {sts : List St} {j k : Nat} (h : FR sts j k) : ∃ n, Pa sts j [] k n := by
  induction h with
  | refl => exact ⟨0, .refl _⟩
  | step h1 h2 ih =>
    obtain ⟨n, p⟩ := ih
    unfold frees at h2
    split at h2
    · rename_i x hx
      exact ⟨_, p.trans (.free hx h2 (.refl _))⟩
    · cases h2
theorem Rn_pa {sts : List St} {st k : Nat} {cs : List Nat} (h : Rn sts st cs k) : ∃ n, Pa sts st cs k n := by
  induction h with
  | start h => exact FR_pa h
  | byte h1 h2 h3 h4 ih =>
    obtain ⟨n, p⟩ := ih
    obtain ⟨m, q⟩ := FR_pa h4
    have := p.trans (.byte h2 h3 q)
    exact ⟨_, this⟩
theorem Rn_free {sts : List St} {st j f : Nat} {cs : List Nat} (h : Rn sts st cs j) (hf : f ∈ frees sts j) : Rn sts st cs f := by
  cases h with
  | start h => exact .start (.step h hf)
  | byte h1 h2 h3 h4 => exact .byte h1 h2 h3 (.step h4 hf)
theorem pa_Rn {sts : List St} {st j k n : Nat} {cs : List Nat} (h : Pa sts j cs k n) : ∀ {c0}, Rn sts st c0 j → Rn sts st (c0 ++ cs) k := by
  induction h with
  | refl => intro c0 h; simpa using h
  | free h1 h2 _ ih => intro c0 h; exact ih (Rn_free h (by unfold frees; rw [h1]; exact h2))
  | byte h1 h2 _ ih =>
    intro c0 h
    have := ih (Rn.byte h h1 h2 (.refl _))
    rw [List.append_assoc] at this
    exact this
theorem Rn_iff {sts : List St} {st k : Nat} {cs : List Nat} : Rn sts st cs k ↔ ∃ n, Pa sts st cs k n :=
  ⟨Rn_pa, fun ⟨_, p⟩ => by have := pa_Rn (c0 := []) p (.start (.refl _)); simpa using this⟩
theorem reT_made (p : ByteArray) : Made bs0 0 (runR p) (reT p) :=
  reM_made p _ .either .no 0 bs0 0 (by omega) (by simp [bs0]) (fun h => by cases h) trivial (by simp [fuelM, bs0]) rfl
theorem fits_re (p t : ByteArray) : FitsP p t ↔ errM p = 0 ∧ Lr (reT p) (bytesN t) := by
  unfold FitsP
  rw [Rn_iff, endR_sts, (reT_made p).frg.lang]
end Go.Proofs.YtgbapkechngnmaaGreat
/- strings.Builder: WriteByte, with a frame that keeps one block more: a contract. -/
namespace Go.Proofs.YtgbapkechngnmaaGreat
open Go.RowKit

end Go.Proofs.YtgbapkechngnmaaGreat
/- pattern.Quote: a contract. -/
namespace Go.Proofs.YtgbapkechngnmaaGreat
open Go.RowKit

def quoteM (l : List Nat) : List Nat := l.flatMap fun c => if oddB c = true then [92, c] else [c]
def quoteB (s : ByteArray) : ByteArray := ⟨((quoteM (bytesN s)).map UInt8.ofNat).toArray⟩
theorem quoteM_len : ∀ l : List Nat, (quoteM l).length ≤ 2 * l.length
 | [] => Nat.le_refl _
 | c :: l => by
  have := quoteM_len l
  unfold quoteM at this ⊢
  rw [List.flatMap_cons, List.length_append, List.length_cons]
  split
  ·simp only [List.length_cons, List.length_nil]; omega
  ·simp only [List.length_cons, List.length_nil]; omega
theorem quoteM_lt {l : List Nat} (h : ∀ c ∈ l, c < 256) : ∀ c ∈ quoteM l, c < 256 := by
 intro c hc
 obtain ⟨x, hx, h1⟩ := List.mem_flatMap.1 hc
 split at h1
 ·simp at h1
  rcases h1 with rfl | rfl
  ·omega
  ·exact h _ hx
 ·rw [List.mem_singleton.1 h1]; exact h _ hx
theorem quoteM_take {l : List Nat} {k : Nat} (hk : k < l.length) : quoteM (l.take (k + 1)) = quoteM (l.take k) ++ (if oddB l[k] = true then [92, l[k]] else [l[k]]) := by
 unfold quoteM
 rw [List.take_succ_eq_append_getElem hk, List.flatMap_append]; simp
theorem bytesN_getD (s : ByteArray) {j : Nat} (h : j < s.size) : (bytesN s).getD j 0 = (s.data.toList.getD j 0).toNat := by
 have hb : j < (bytesN s).length := by rw [bytesN_len]; exact h
 have hb2 : j < s.data.toList.length := by simpa using h
 rw [List.getD_eq_getElem?_getD, List.getElem?_eq_getElem hb, List.getD_eq_getElem?_getD, List.getElem?_eq_getElem hb2]
 simp [bytesN, B]
theorem quoteB_bytes (s : ByteArray) : bytesN (quoteB s) = quoteM (bytesN s) := (chr_bytes (quoteM_lt (fun _ hc => bytesN_lt hc))).2
end Go.Proofs.YtgbapkechngnmaaGreat
/- What is quoted fits itself alone. No program in sight. -/
namespace Go.Proofs.YtgbapkechngnmaaGreat

theorem byteM_bytesN {q : ByteArray} {k c : Nat} {l : List Nat} (h : (bytesN q).drop k = c :: l) : k < q.size ∧ byteM q k = c ∧ (bytesN q).drop (k + 1) = l := by
 have hk : k < (bytesN q).length := by
  rcases Nat.lt_or_ge k (bytesN q).length with h1 | h1
  ·exact h1
  ·rw [List.drop_eq_nil_of_le h1] at h; cases h
 have hk' : k < q.size := by rw [← bytesN_len]; exact hk
 rw [List.drop_eq_getElem_cons hk] at h
 injection h with h1 h2
 refine ⟨hk', ?_, h2⟩
 rw [← h1]
 unfold byteM
 rw [dif_pos hk']
 simp [bytesN, B]
 rfl
theorem peekM_at {q : ByteArray} {b : Bs} {c : Nat} {l : List Nat} (he : b.err = 0) (h : (bytesN q).drop b.pos = c :: l) : peekM q b = some c := by
 obtain ⟨h1, h2, _⟩ := byteM_bytesN h
 unfold peekM
 rw [if_pos ⟨he, h1⟩, h2]
theorem peekM_end {q : ByteArray} {b : Bs} (h : (bytesN q).drop b.pos = []) : peekM q b = none := by
 have h1 := List.drop_eq_nil_iff.1 h
 rw [bytesN_len] at h1
 unfold peekM
 rw [if_neg (by omega)]
theorem oneS_iff {c d : Nat} : oneS c d = true ↔ d = c := by
 simp only [oneS, addS, noS, Bool.false_or, Bool.and_eq_true, decide_eq_true_eq]; omega
theorem oddB_false {c : Nat} (h : oddB c = false) : postB c = false ∧ c ≠ 124 ∧ c ≠ 40 ∧ c ≠ 41 ∧ c ≠ 91 ∧ c ≠ 93 ∧ c ≠ 92 ∧ c ≠ 46 := by
 simp only [oddB, Bool.or_eq_false_iff, decide_eq_false_iff_not] at h
 obtain ⟨⟨⟨⟨⟨⟨⟨h0, h1⟩, h2⟩, h3⟩, h4⟩, h5⟩, h6⟩, h7⟩ := h
 exact ⟨h0, h1, h2, h3, h4, h5, h6, h7⟩
theorem quote_head (l : List Nat) : quoteM l = [] ∨ ∃ c r, quoteM l = c :: r ∧ postB c = false ∧ c ≠ 124 := by
 cases l with
 | nil => exact .inl rfl
 | cons c l =>
  right
  unfold quoteM
  rw [List.flatMap_cons]
  cases h : oddB c with
  | true => exact ⟨92, _, rfl, by decide, by decide⟩
  | false => exact ⟨c, _, rfl, (oddB_false h).1, (oddB_false h).2.1⟩
theorem times_quote {q : ByteArray} {b : Bs} {l : List Nat} (he : b.err = 0) (h : (bytesN q).drop b.pos = quoteM l) (x : Nat × Nat) (a : Re) : timesM q b x = (b, x) ∧ timesR q b a = a := by
 rcases quote_head l with h1 | ⟨c, r, h1, h2, _⟩
 ·rw [h1] at h
  have := peekM_end h
  unfold timesM timesR
  rw [this]
  exact ⟨rfl, rfl⟩
 ·rw [h1] at h
  have := peekM_at he h
  unfold timesM timesR
  rw [this]
  have h3 : c ≠ 42 ∧ c ≠ 43 ∧ c ≠ 63 := by simp only [postB, Bool.or_eq_false_iff, decide_eq_false_iff_not] at h2; omega
  refine ⟨if_neg (by rw [h2]; simp), ?_⟩
  dsimp only
  rw [if_neg h3.1, if_neg h3.2.1, if_neg h3.2.2]
theorem atom_quote {q : ByteArray} {n d : Nat} {b : Bs} {c : Nat} {l : List Nat} (he : b.err = 0) (h : (bytesN q).drop b.pos = quoteM (c :: l)) :
  ∃ k sts p, runM q (n + 1) .atom d b = (⟨k, 0, sts⟩, p) ∧ (bytesN q).drop k = quoteM l ∧ k ≤ q.size ∧ b.pos < k ∧ reM q (n + 1) .atom .no d b = .set (oneS c) ∧ ∃ e, peekM q b = some e ∧ e ≠ 124 ∧ e ≠ 41 := by
 have e : quoteM (c :: l) = (if oddB c = true then [92, c] else [c]) ++ quoteM l := by unfold quoteM; rw [List.flatMap_cons]
 rw [e] at h
 obtain ⟨pos, err, sts⟩ := b
 dsimp only at he h
 subst he
 cases ho : oddB c with
 | true =>
  rw [ho, if_pos rfl] at h
  obtain ⟨h1, h2, h3⟩ := byteM_bytesN (q := q) h
  obtain ⟨h4, h5, h6⟩ := byteM_bytesN (q := q) h3
  have hp : peekM q ⟨pos, 0, sts⟩ = some 92 := peekM_at rfl h
  have hp2 : peekM q (stepM ⟨pos, 0, sts⟩) = some c := peekM_at (b := stepM ⟨pos, 0, sts⟩) rfl h3
  rw [runM, reM]
  dsimp only
  rw [h2]
  rw [if_neg (by decide), if_neg (by decide), if_neg (by decide), if_pos rfl, if_neg (by decide), if_neg (by decide), if_neg (by decide), if_pos rfl, hp2]
  exact ⟨_, _, _, rfl, h6, h4, by show pos < pos + 1 + 1; omega, rfl, 92, hp, by decide, by decide⟩
 | false =>
  rw [ho, if_neg (by decide)] at h
  obtain ⟨h1, h2, h3⟩ := byteM_bytesN (q := q) h
  obtain ⟨o1, o2, o3, o4, o5, o6, o7, o8⟩ := oddB_false ho
  have hp : peekM q ⟨pos, 0, sts⟩ = some c := peekM_at rfl h
  rw [runM, reM]
  dsimp only
  rw [h2]
  rw [if_neg o3, if_neg o5, if_neg o8, if_neg o7, if_neg (by rw [ho]; decide), if_neg o3, if_neg o5, if_neg o8, if_neg o7, if_neg (by rw [ho]; decide)]
  exact ⟨_, _, _, rfl, h3, h1, by show pos < pos + 1; omega, rfl, c, hp, o2, o4⟩
theorem parts_quote {q : ByteArray} : ∀ (l : List Nat) (n d : Nat) (b : Bs) (p : Nat × Nat) (acc : Re), b.err = 0 → b.pos ≤ q.size → (bytesN q).drop b.pos = quoteM l → l.length + 2 ≤ n →
  (runM q n (.parts p) d b).1.pos = q.size ∧ (runM q n (.parts p) d b).1.err = 0 ∧ ∀ cs, Lr (reM q n (.parts p) acc d b) cs ↔ ∃ x, Lr acc x ∧ cs = x ++ l
 | [], n, d, b, p, acc, he, hk, h, hn => by
  obtain ⟨n, rfl⟩ : ∃ m, n = m + 1 := ⟨n - 1, by omega⟩
  have hp := peekM_end h
  have hq : q.size ≤ b.pos := by have := List.drop_eq_nil_iff.1 h; rwa [bytesN_len] at this
  rw [runM, reM, hp]
  exact ⟨by dsimp only; omega, he, fun cs => ⟨fun h => ⟨cs, h, (List.append_nil cs).symm⟩, fun ⟨x, h, e⟩ => by rw [e, List.append_nil]; exact h⟩⟩
 | c :: l, n, d, b, p, acc, he, hk, h, hn => by
  obtain ⟨n, rfl⟩ : ∃ m, n = m + 2 := ⟨n - 2, by simp at hn; omega⟩
  obtain ⟨k, sts, pp, h1, h2, h3, h3', h4, e, h5, h6, h7⟩ := atom_quote (n := n) (d := d) he h
  have ht := fun x a => times_quote (b := ⟨k, 0, sts⟩) rfl h2 x a
  have ih := parts_quote l (n + 1) d (freeM ⟨k, 0, sts⟩ p.2 pp.1) (p.1, pp.2) (.cat acc (.set (oneS c))) rfl h3 h2 (by simp at hn; omega)
  rw [runM, reM, h5]
  dsimp only
  rw [if_neg (by omega), if_neg (by omega), h1, h4]
  dsimp only
  rw [(ht pp (.set (oneS c))).1, (ht pp (.set (oneS c))).2]
  refine ⟨ih.1, ih.2.1, fun cs => (ih.2.2 cs).trans ⟨?_, ?_⟩⟩
  ·rintro ⟨x, h8, rfl⟩
   cases h8 with
   | cat h8 h9 =>
    cases h9 with
    | set h9 =>
     rename_i y d'
     rw [oneS_iff.1 h9]
     exact ⟨y, h8, by simp⟩
  ·rintro ⟨x, h8, rfl⟩
   exact ⟨x ++ [c], .cat h8 (.set (oneS_iff.2 rfl)), by simp⟩
theorem bytes_quote (s : ByteArray) : bytesN (quoteB s) = quoteM (bytesN s) := quoteB_bytes s
theorem bytesN_le_quote (l : List Nat) : l.length ≤ (quoteM l).length := by
 induction l with
 | nil => exact Nat.le_refl _
 | cons c l ih =>
  unfold quoteM at ih ⊢
  rw [List.flatMap_cons, List.length_append, List.length_cons]
  split
  ·simp only [List.length_cons, List.length_nil]; omega
  ·simp only [List.length_cons, List.length_nil]; omega
theorem quote_run (s : ByteArray) : (runR (quoteB s)).1.pos = (quoteB s).size ∧ (runR (quoteB s)).1.err = 0 ∧ ∀ cs, Lr (reT (quoteB s)) cs ↔ cs = bytesN s := by
 have hq := bytes_quote s
 have hl : (bytesN s).length ≤ (quoteB s).size := by rw [← bytesN_len (quoteB s), hq]; exact bytesN_le_quote _
 unfold runR reT
 generalize hqe : quoteB s = q at *
 obtain ⟨n, hn⟩ : ∃ n, 8 * q.size + 5 = n + 3 := ⟨8 * q.size + 2, rfl⟩
 rw [hn]
 have hb : (nodeM (nodeM bs0)).err = 0 := rfl
 have h := parts_quote (q := q) (bytesN s) n 0 (nodeM (nodeM (nodeM bs0))) ((nodeM (nodeM bs0)).sts.length, (nodeM (nodeM bs0)).sts.length) .eps rfl (Nat.zero_le _) (by rw [show (nodeM (nodeM (nodeM bs0))).pos = 0 from rfl, List.drop_zero]; exact hq) (by omega)
 obtain ⟨h1, h2, h3⟩ := h
 have hpk : ∀ f t f' t', peekM q (freeM (freeM (runM q n (.parts ((nodeM (nodeM bs0)).sts.length, (nodeM (nodeM bs0)).sts.length)) 0 (nodeM (nodeM (nodeM bs0)))).1 f t) f' t') = none := fun f t f' t' => by
  unfold peekM
  rw [if_neg (by simp only [freeM]; omega)]
 have r1 : runM q (n + 1) .row 0 (nodeM (nodeM bs0)) = runM q n (.parts ((nodeM (nodeM bs0)).sts.length, (nodeM (nodeM bs0)).sts.length)) 0 (nodeM (nodeM (nodeM bs0))) := by rw [runM]
 have r2 : reM q (n + 1) .row .no 0 (nodeM (nodeM bs0)) = reM q n (.parts ((nodeM (nodeM bs0)).sts.length, (nodeM (nodeM bs0)).sts.length)) .eps 0 (nodeM (nodeM (nodeM bs0))) := by rw [reM]
 rw [runM, reM, runM, reM, r1, r2]
 dsimp only
 rw [hpk]
 refine ⟨?_, ?_, fun cs => ?_⟩
 ·rw [if_neg (by simp)]; exact h1
 ·rw [if_neg (by simp)]; exact h2
 ·rw [if_neg (by simp)]
  constructor
  ·intro h4
   cases h4 with
   | altl h5 => cases h5
   | altr h5 =>
    obtain ⟨x, h6, rfl⟩ := (h3 _).1 h5
    cases h6
    rfl
  ·rintro rfl
   exact .altr ((h3 _).2 ⟨[], .eps, rfl⟩)
theorem quote_err (s : ByteArray) : errM (quoteB s) = if 100 < (quoteB s).size then 4 else 0 := by
 obtain ⟨h1, h2, _⟩ := quote_run s
 unfold errM
 split
 ·rfl
 ·unfold endR
  rw [if_neg (by omega)]
  exact h2
theorem quote_fits (s t : ByteArray) (h : (quoteB s).size ≤ 100) : FitsP (quoteB s) t ↔ bytesN t = bytesN s := by
 rw [fits_re, (quote_run s).2.2, quote_err, if_neg (by omega)]
 exact ⟨fun h => h.2, fun h => ⟨rfl, h⟩⟩
end Go.Proofs.YtgbapkechngnmaaGreat
/- lychgateref05.Quote: a contract. -/
namespace Go.Proofs.YtgbapkechngnmaaGreat
open Go.RowKit

def oddL : List Nat := [42, 43, 63, 124, 40, 41, 91, 93, 92, 46]
def chrB (l : List Nat) : ByteArray := ⟨(l.map UInt8.ofNat).toArray⟩
def escN (c k : Nat) : List Nat := ((oddL.take k).filter fun d => decide (d = c)).map fun _ => 92
theorem chrB_app (a b : List Nat) : chrB (a ++ b) = chrB a ++ chrB b := by
 apply ByteArray.ext
 rw [ByteArray.data_append]
 simp [chrB]
theorem quoteB_chr (s : ByteArray) : quoteB s = chrB (quoteM (bytesN s)) := rfl
theorem escN_succ {c k : Nat} (h : k < 10) : escN c (k + 1) = escN c k ++ (if oddL.getD k 0 = c then [92] else []) := by
 have hk : k < oddL.length := h
 unfold escN
 rw [List.take_succ_eq_append_getElem hk, List.filter_append, List.map_append, List.getD_eq_getElem?_getD, List.getElem?_eq_getElem hk]
 congr 1
 simp only [Option.getD_some]
 by_cases h : oddL[k] = c <;> simp [h]
theorem escN_all {c : Nat} (hc : c < 256) : escN c 10 = if oddB c = true then [92] else [] := by
 have : ∀ c : Fin 256, escN c.val 10 = if oddB c.val = true then [92] else [] := by decide +kernel
 exact this ⟨c, hc⟩
theorem odd_at (k : Nat) (h : k < 10) : ((⟨#[42, 43, 63, 124, 40, 41, 91, 93, 92, 46]⟩ : ByteArray)[k]'h).toNat = oddL.getD k 0 := by
 have : ∀ k : Fin 10, ((⟨#[42, 43, 63, 124, 40, 41, 91, 93, 92, 46]⟩ : ByteArray)[k.val]'k.isLt).toNat = oddL.getD k.val 0 := by decide +kernel
 exact this ⟨k, h⟩
theorem one_piece (s : ByteArray) {i : Nat} (h : i < s.size) : s.extract i (i + 1) = chrB [(bytesN s).getD i 0] := by
 apply ByteArray.ext
 apply Array.toList_inj.1
 rw [ByteArray.data_extract, Array.toList_extract, List.extract_eq_take_drop, Nat.add_sub_cancel_left]
 have hb : i < s.data.toList.length := by simpa using h
 rw [List.drop_eq_getElem_cons hb, bytesN_getD s h]
 simp [chrB, List.getD_eq_getElem?_getD, List.getElem?_eq_getElem hb]
theorem chrB_size (l : List Nat) : (chrB l).size = l.length := by
 show (l.map UInt8.ofNat).toArray.size = l.length; simp
theorem chr_le {q : List Nat} {c : Nat} (j : Nat) (h : q.length ≤ 200000) : (chrB (q ++ escN c j)).size ≤ 200010 := by
 rw [chrB_size, List.length_append]
 have h1 : (escN c j).length ≤ 10 := by
  unfold escN
  rw [List.length_map]
  exact Nat.le_trans (List.length_filter_le _ _) (Nat.le_trans (List.length_take_le' _ _) (by decide))
 omega
set_option maxHeartbeats 3200000 in
set_option maxRecDepth 100000 in
theorem refquote_is (s : ByteArray) (w : World) (hs : s.size ≤ 100000) : Calls Tryz.prog 24 #[.string s] w fun e w' => e = .returned (.string (quoteB s)) ∧ Below w.heap.size w w' := by
 go_enter Tryz.func24, Tryz.ntmps24
 go_upto_region 3 with fail
 go_loopw [3, 4, 5, 6] (fun vo vi _ _ wr => ∃ k : Nat, k ≤ s.size ∧ vi = .int .i64 k ∧ vo = .string (chrB (quoteM ((bytesN s).take k))) ∧ Hid (Below w.heap.size w wr)) (fun _ vi _ _ _ => s.size - (intOf vi).toNat)
 case atStart => exact ⟨0, Nat.zero_le _, rfl, rfl, Lib.hid (Below.refl _ _)⟩
 case round =>
  obtain ⟨k, hk, rfl, rfl, HB⟩ := hrel
  by_cases hks : k < s.size
  ·have hkb : k < (bytesN s).length := by rw [bytesN_len]; exact hks
   obtain ⟨c, hce⟩ : ∃ c, (bytesN s).getD k 0 = c := ⟨_, rfl⟩
   have hce2 : (bytesN s)[k] = c := by rw [← hce, List.getD_eq_getElem?_getD, List.getElem?_eq_getElem hkb]; rfl
   have hc6 : c < 256 := hce2 ▸ bytesN_lt (List.getElem_mem hkb)
   have HT : Hid (quoteM ((bytesN s).take (k + 1)) = quoteM ((bytesN s).take k) ++ (if oddB c = true then [92, c] else [c])) := Lib.hid (by rw [quoteM_take hkb, hce2])
   have HP : Hid (s.extract k (k + 1) = chrB [c]) := Lib.hid (by rw [one_piece s hks, hce])
   have HC : Hid ((s[k].toNat : Int) = (c : Int)) := Lib.hid (by rw [← hce2]; simp [bytesN, B]; rfl)
   clear hce hce2
   have hqz : (quoteM ((bytesN s).take k)).length ≤ 200000 := by
    have h1 := quoteM_len ((bytesN s).take k)
    have h2 : ((bytesN s).take k).length ≤ k := by simp; omega
    omega
   generalize hq : quoteM ((bytesN s).take k) = q at *
   clear hq
   go_upto_region 7 with fail
   go_loopw [3, 6] (fun vo vj w2 => ∃ j : Nat, j ≤ 10 ∧ vj = .int .i64 j ∧ vo = .string (chrB (q ++ escN c j)) ∧ Hid (Below w.heap.size w w2)) (fun _ vj _ => 10 - (intOf vj).toNat)
   case atStart => exact ⟨0, Nat.zero_le _, rfl, by simp [escN], HB⟩
   case round =>
    obtain ⟨j, hj, rfl, rfl, HB2⟩ := hrel
    by_cases hj10 : j < 10
    ·have HO := odd_at j hj10
     have HE := Lib.hid (escN_succ (c := c) hj10)
     have hc0 := HC.out
     have hz := chr_le (c := c) j hqz
     go_upto_region 9 with fail
     obtain ⟨o, ho⟩ : ∃ o, oddL.getD j 0 = o := ⟨_, rfl⟩
     rw [ho] at HO HE
     clear ho
     by_cases hoc : o = c
     ·rw [if_pos hoc] at HE
      rw [hoc] at HO
      clear hoc
      go_quiet (fail)
      go_wp2
      go_roundw
      case rel => exact ⟨j + 1, by omega, by go_num, by rw [HE.out, ← List.append_assoc, chrB_app _ [92]]; rfl, Lib.hid (bl_drewN HB2.out _)⟩
      case measure => (simp [intOf]; try omega)
     ·rw [if_neg hoc, List.append_nil] at HE
      have hne : ((o : Int) == (c : Int)) = false := by simp; omega
      clear hoc
      go_quiet (fail)
      go_wp2
      go_roundw
      case rel => exact ⟨j + 1, by omega, by go_num, by rw [HE.out], Lib.hid (bl_drewN HB2.out _)⟩
      case measure => (simp [intOf]; try omega)
    ·obtain rfl : j = 10 := by omega
     have hpi := HP.out
     have hz := chr_le (c := c) 10 hqz
     have hz2 : (chrB [c]).size = 1 := rfl
     have HN : Hid (chrB (quoteM ((bytesN s).take (k + 1))) = chrB (q ++ escN c 10) ++ chrB [c]) := Lib.hid (by rw [HT.out, escN_all hc6, ← chrB_app]; congr 1; split <;> simp)
     go_wp2
     go_roundw
     case rel => exact ⟨k + 1, by omega, by go_num, by rw [HN.out], HB2⟩
     case measure => (simp [intOf]; try omega)
  ·obtain rfl : k = s.size := by omega
   have HQ : Hid (chrB (quoteM ((bytesN s).take s.size)) = quoteB s) := Lib.hid (by rw [← bytesN_len, List.take_length, quoteB_chr])
   rw [HQ.out]
   go_wp2
   go_ret
   exact ⟨rfl, HB.out⟩
end Go.Proofs.YtgbapkechngnmaaGreat
/- MatchTurns: the law's walk: whatever the arguments, it returns true. No condition. (The drawn regions are printed by wip/genmaturn.py.) -/
namespace Go.Proofs.YtgbapkechngnmaaGreat
open Go.RowKit

/-! plain -/
def turnM (m : Mt) : Mt := ⟨m.nm, if m.op = 0 then 1 else if m.op = 1 then 0 else if m.op = 2 then 3 else 2, m.val⟩
theorem fine_turn {m : Mt} (h : fineM m = true) : fineM (turnM m) = true := by
 obtain ⟨h1, h2, h3, h4, h5⟩ := fineM_true h
 unfold fineM turnM
 simp only [Bool.and_eq_true, Bool.or_eq_true, decide_eq_true_eq]
 refine ⟨⟨⟨⟨h1, ?_⟩, ?_⟩, h4⟩, ?_⟩
 ·split <;> (try split) <;> (try split) <;> decide
 ·split <;> (try split) <;> (try split) <;> decide
 ·rcases (show m.op = 0 ∨ m.op = 1 ∨ m.op = 2 ∨ m.op = 3 by omega) with e | e | e | e
  ·left; rw [if_pos e]; decide
  ·left; rw [if_neg (by omega), if_pos e]; decide
  ·right; exact h5.resolve_left (by omega)
  ·right; exact h5.resolve_left (by omega)
theorem turn_fits (l : List Fld) {m : Mt} (h : fineM m = true) : fitM l (turnM m) = !(fitM l m) := by
 obtain ⟨h1, h2, h3, h4, h5⟩ := fineM_true h
 unfold fitM
 rw [h, fine_turn h, Bool.true_and, Bool.true_and]
 show opM (turnM m) (valueF l m.nm) = _
 unfold opM turnM
 rcases (show m.op = 0 ∨ m.op = 1 ∨ m.op = 2 ∨ m.op = 3 by omega) with e | e | e | e <;> simp [e]
theorem bytesN_B {s t : ByteArray} (h : bytesN s = bytesN t) : s = t := by
 have : ∀ {a b : List UInt8}, a.map (fun x => x.toNat) = b.map (fun x => x.toNat) → a = b := by
  intro a
  induction a with
  | nil => intro b h; cases b with
   | nil => rfl
   | cons _ _ => simp at h
  | cons x a ih => intro b h; cases b with
   | nil => simp at h
   | cons y b =>
    simp only [List.map_cons, List.cons.injEq] at h
    rw [UInt8.toNat_inj.1 h.1, ih h.2]
 exact B_inj (this h)
theorem quote_like (l : List Fld) {m : Mt} (h1 : fineM ⟨m.nm, 0, m.val⟩ = true) (h2 : fineM ⟨m.nm, 2, quoteB m.val⟩ = true) : fitM l ⟨m.nm, 2, quoteB m.val⟩ = fitM l ⟨m.nm, 0, m.val⟩ := by
 have he : errM (quoteB m.val) = 0 := (fineM_true h2).2.2.2.2.resolve_left (by show ¬ (2 : Int) < 2; decide)
 have hz := errM_size he
 unfold fitM
 rw [h1, h2, Bool.true_and, Bool.true_and]
 show fitB (quoteB m.val) (valueF l m.nm) = ((valueF l m.nm).toList == m.val.toList)
 rw [Bool.eq_iff_iff, fitB_iff, quote_fits m.val _ hz, bytes_eq_iff]
 exact ⟨bytesN_B, fun e => by rw [e]⟩
theorem bits_turn {op : Int} (h0 : 0 ≤ op) (h3 : op ≤ 3) (nm val : ByteArray) : bits BinOp.xor IntKind.i64 op 1 = (turnM ⟨nm, op, val⟩).op := by
 rcases (show op = 0 ∨ op = 1 ∨ op = 2 ∨ op = 3 by omega) with rfl | rfl | rfl | rfl <;> kernel_rfl
theorem quoteB_small {s : ByteArray} (h : s.size ≤ 210) : (quoteB s).size ≤ maxLen := by
 have h1 := quoteM_len (bytesN s)
 have h2 : (bytesN s).length = s.size := by unfold bytesN; rw [List.length_map, Array.length_toList]; rfl
 have h3 : (quoteB s).size = (quoteM (bytesN s)).length := by unfold quoteB; show (List.toArray _).size = _; simp
 unfold maxLen
 omega
theorem few_one (m : Mt) : fewM [m] = [cutM m] := rfl
structure MtBox (W : World) (b : Nat) (m : Mt) : Prop where
 c0 : W.cell? ⟨b, 0, none⟩ = some (.string m.nm)
 c1 : W.cell? ⟨b, 1, none⟩ = some (.int .i64 m.op)
 c2 : W.cell? ⟨b, 2, none⟩ = some (.string m.val)
 th : W.there b 0 3
theorem MtBox.lt {W : World} {b : Nat} {m : Mt} (h : MtBox W b m) : b < W.heap.size := cell_blt h.c0
theorem MtBox.later {W W' : World} {b : Nat} {m : Mt} (h : MtBox W b m) (hb : Below W.heap.size W W') : MtBox W' b m :=
 ⟨keep_cell h.c0 hb h.lt, keep_cell h.c1 hb h.lt, keep_cell h.c2 hb h.lt, there_later h.th hb h.lt⟩
theorem MtBox.new (W : World) (m : Mt) : MtBox (W.alloc (.cells #[.string m.nm, .int .i64 m.op, .string m.val] 29)) W.heap.size m :=
 ⟨World.cell?_alloc_at _ _ _ _ rfl, World.cell?_alloc_at _ _ _ _ rfl, World.cell?_alloc_at _ _ _ _ rfl, there3⟩
theorem MtBox.puts {W : World} {b : Nat} {m : Mt} (h : MtBox W b m) (x : Mt) : MtBox (W.setCells b 0 [.string x.nm, .int .i64 x.op, .string x.val]) b x := by
 have hr := World.rangeAt_setCells_same W b 0 [.string x.nm, .int .i64 x.op, .string x.val] h.th
 exact ⟨by simpa using hr 0 _ rfl, by simpa using hr 1 _ rfl, by simpa using hr 2 _ rfl, World.there_setCells h.th b 0 _⟩
theorem MtBox.setOp {W : World} {b : Nat} {m : Mt} (h : MtBox W b m) (o : Int) : MtBox (W.setCell ⟨b, 1, none⟩ (.int .i64 o)) b ⟨m.nm, o, m.val⟩ :=
 ⟨by rw [World.cell?_setCell_other _ _ _ _ (by simp)]; exact h.c0, World.cell?_setCell_same _ _ _ h.c1, by rw [World.cell?_setCell_other _ _ _ _ (by simp)]; exact h.c2, World.there_setCells h.th b 1 [.int .i64 o]⟩
theorem MtBox.setVal {W : World} {b : Nat} {m : Mt} (h : MtBox W b m) (v : ByteArray) : MtBox (W.setCell ⟨b, 2, none⟩ (.string v)) b ⟨m.nm, m.op, v⟩ :=
 ⟨by rw [World.cell?_setCell_other _ _ _ _ (by simp)]; exact h.c0, by rw [World.cell?_setCell_other _ _ _ _ (by simp)]; exact h.c1, World.cell?_setCell_same _ _ _ h.c2, World.there_setCells h.th b 2 [.string v]⟩
theorem MtBox.far {W : World} {b b' j : Nat} {m : Mt} {v : Value} (h : MtBox W b m) (hn : b' ≠ b) : MtBox (W.setCell ⟨b', j, none⟩ v) b m :=
 ⟨by rw [cell_farC hn]; exact h.c0, by rw [cell_farC hn]; exact h.c1, by rw [cell_farC hn]; exact h.c2, World.there_setCells h.th b' j [v]⟩
structure TS (w : World) (w2 : World) (p : Nat) (W : World) : Prop where
 bl : Below w.heap.size w W
 kp : ∀ k, p ≤ k → k < w2.heap.size → W.heap[k]? = w2.heap[k]?
 sz : w2.heap.size ≤ W.heap.size
theorem TS.later {w w2 W W' : World} {p : Nat} (h : TS w w2 p W) (hb : Below W.heap.size W W') : TS w w2 p W' :=
 ⟨h.bl.trans (hb.mono h.bl.size), fun k h1 h2 => (hb.block k (Nat.lt_of_lt_of_le h2 h.sz)).trans (h.kp k h1 h2), Nat.le_trans h.sz hb.size⟩
theorem TS.set {w w2 W : World} {p b j : Nat} {v : Value} (h : TS w w2 p W) (hb : w.heap.size ≤ b) (hn : b < p ∨ w2.heap.size ≤ b) : TS w w2 p (W.setCell ⟨b, j, none⟩ v) :=
 ⟨h.bl.trans ((Below.refl _ _).setCell (p := ⟨b, j, none⟩) hb v), fun k h1 h2 => (block_setCell_o (by omega)).trans (h.kp k h1 h2), by rw [World.size_setCell]; exact h.sz⟩
theorem TS.flds {w w2 : World} {p : Nat} {gv : Value} {L : List Fld} (hf : FldsAt w2 gv L) (hq : ∀ q, gv.ownBlock = some q → p ≤ q) : ∀ W, TS w w2 p W → FldsAt W gv L := by
 intro W h
 obtain ⟨h1, h2⟩ := hf
 refine ⟨h1, ?_⟩
 rcases h2 with h2 | ⟨a, c, rfl, hc, hr⟩
 ·exact .inl h2
 ·refine .inr ⟨a, c, rfl, hc, fun hn => ?_⟩
  obtain ⟨b, o, rfl, hlt, hcell⟩ := hr hn
  have e := h.kp b (hq b rfl) hlt
  exact ⟨b, o, rfl, Nat.lt_of_lt_of_le hlt h.sz, fun j x hx => (World.cell?_of_block (w := w2) (a := ⟨b, o + j, none⟩) e).trans (hcell j x hx)⟩
namespace lawTurns
set_option maxHeartbeats 3200000 in
set_option maxRecDepth 100000 in
theorem walk0 (v0 : Value) (l : List Fld) (m0 : Mt) (w : World) (hv : ArgFlds w v0 l) (hm : MtFit m0) :
  Calls Tryz.prog 5 #[v0, .agg #[.string m0.nm, .int .i64 m0.op, .string m0.val]] w fun e w' => e = .returned (.bool true) ∧ Below w.heap.size w w' := by
 have hba := alloc_below w (.cells #[.string m0.nm, .int .i64 m0.op, .string m0.val] 29)
 have kl := lives6_any (w.alloc (.cells #[.string m0.nm, .int .i64 m0.op, .string m0.val] 29))
 have KG := Lib.hid (fun W (h : Below w.heap.size w W) => rgood6_any l W v0 (hv.1.later h) hv.2.2 hv.2.1)
 have HX := Lib.hid (MtBox.new w m0)
 have HBA := Lib.hid hba
 have HCF := Lib.hid (show MtFit (cutM m0) from ⟨hm.1, by have := cutM_size m0; unfold maxLen; omega⟩)
 have HCZ := Lib.hid (cutM_size m0)
 have KF := Lib.hid (fun (W : World) => few6_any [m0] (.slice (some ⟨W.heap.size, 0, none⟩) 1 1) (W.alloc (.cells #[.string m0.nm, .int .i64 m0.op, .string m0.val] 29)) (show MtsAt (W.alloc (.cells #[.string m0.nm, .int .i64 m0.op, .string m0.val] 29)) (.slice (some ⟨W.heap.size, 0, none⟩) 1 1) [m0] from row_mt W m0) (by unfold maxLen; show 1 ≤ _; omega))
 rw [few_one] at KF
 clear hv hba
 obtain ⟨nm0, op0, val0⟩ := m0
 dsimp only at *
 go_enter Tryz.func5, Tryz.ntmps5
 go_wp2_with fail
 refine kl.mono ?_
 rintro e w1 ⟨rfl, hb1⟩
 have HX1 := Lib.hid (HX.out.later hb1)
 have HB1 := Lib.hid (HBA.out.trans (hb1.mono HBA.out.size))
 have hpl : w.heap.size < w1.heap.size := HX1.out.lt
 have kg := KG.out w1 HB1.out
 clear kl hb1 HX HBA KG
 go_wp2_with fail
 refine kg.mono ?_
 rintro e w2 ⟨gv, rfl, hgv, hgf, hgr, hgq, hb2⟩
 have HTF := Lib.hid (TS.flds (w := w) hgv hgq)
 have HB2 := Lib.hid (HB1.out.trans (hb2.mono HB1.out.size))
 have HX2 := Lib.hid (HX1.out.later hb2)
 have HGF := Lib.hid hgf
 have HGL := Lib.hid ((right_iff _).1 hgr).1
 have HT2 := Lib.hid (show TS w w2 w1.heap.size w2 from ⟨HB2.out, fun _ _ _ => rfl, Nat.le_refl _⟩)
 have h12 : w1.heap.size ≤ w2.heap.size := hb2.size
 clear kg hb2 hgv hgf hgr hgq HX1
 generalize goodF l = L at *
 have c0 := HX2.out.c0
 have c1 := HX2.out.c1
 have c2 := HX2.out.c2
 have kf := KF.out w2
 have hab := alloc_below w2 (.cells #[.string nm0, .int .i64 op0, .string val0] 29)
 go_wp2_with fail
 refine kf.mono ?_
 rintro e w3 ⟨fv, rfl, hfo, hb3⟩
 have hb3' := hab.trans (hb3.mono hab.size)
 have HB3 := Lib.hid (HB2.out.trans (hb3'.mono HB2.out.size))
 have HX3 := Lib.hid (HX2.out.later hb3')
 have HT3 := Lib.hid (HT2.out.later hb3')
 have HFO := Lib.hid (RdAt.own hfo)
 obtain ⟨fb, fo, fc, hfv, hfc, hfl, hfcell⟩ := RdAt.some HFO.out (by simp)
 have hfv' : fv = .slice (some ⟨fb, fo, none⟩) 1 fc := hfv
 subst hfv'
 generalize hcm : cutM ⟨nm0, op0, val0⟩ = x at *
 have f0 : w3.cell? ⟨fb, fo, none⟩ = some (.string x.nm) := hfcell 0 _ rfl
 have f1 : w3.cell? ⟨fb, fo + 1, none⟩ = some (.int .i64 x.op) := hfcell 1 _ rfl
 have f2 : w3.cell? ⟨fb, fo + 2, none⟩ = some (.string x.val) := hfcell 2 _ rfl
 have t0 := HX3.out.c0
 have t1 := HX3.out.c1
 have t2 := HX3.out.c2
 have z0 := there_free HX3.out.th 0 (by omega)
 have z1 := there_free HX3.out.th 1 (by omega)
 have z2 := there_free HX3.out.th 2 (by omega)
 clear kf hab hb3 hb3' hfo hfcell hfv hfc KF c0 c1 c2 HX2 HT2 hcm hm
 obtain ⟨nm, op, val⟩ := x
 dsimp only at *
 go_upto_region 5 with fail
 refine wp_forgetB (fun W => MtBox W w.heap.size ⟨nm, op, val⟩ ∧ TS w w2 w1.heap.size W) ⟨HX3.out.puts ⟨nm, op, val⟩, ((HT3.out.set (Nat.le_refl _) (.inl hpl)).set (Nat.le_refl _) (.inl hpl)).set (Nat.le_refl _) (.inl hpl)⟩ (fun w4 hw4 => ?_)
 obtain ⟨hX4, hT4⟩ := hw4
 have c0 := hX4.c0
 have c1 := hX4.c1
 have c2 := hX4.c2
 have hba4 := alloc_below w4 (.cells #[.string nm, .int .i64 op, .string val] 29)
 have HX4 := Lib.hid (hX4.later hba4)
 have HT4 := Lib.hid (hT4.later hba4)
 have HO4 := Lib.hid (MtBox.new w4 ⟨nm, op, val⟩)
 have hsz4 := World.size_alloc w4 (.cells #[.string nm, .int .i64 op, .string val] 29)
 have hw24 := hT4.sz
 clear f0 f1 f2 t0 t1 t2 z0 z1 z2 HX3 HT3 HFO hX4 hT4
 go_upto_region 6 with fail
 refine wp_forgetB (fun W => W = w4.alloc (.cells #[.string nm, .int .i64 op, .string val] 29)) rfl (fun w5 hw5 => ?_)
 rw [← hw5] at HX4 HT4 HO4 hsz4
 clear hba4 hw5 c0 c1 c2
 have c1 := HX4.out.c1
 have d1 := HO4.out.c1
 have y1 := there_free HO4.out.th 1 (by omega)
 obtain ⟨o, hob⟩ : ∃ o, w4.heap.size = o := ⟨_, rfl⟩
 rw [hob] at HO4 d1 y1 hsz4 hw24
 rw [hob]
 have hpo : w.heap.size ≠ o := by have := HT4.out.sz; omega
 go_upto_region 7 with fail
 obtain ⟨xo, hxo⟩ : ∃ x, bits BinOp.xor IntKind.i64 op 1 = x := ⟨_, rfl⟩
 have HXO := Lib.hid hxo
 rw [hxo]
 refine wp_forgetB (fun W => MtBox W w.heap.size ⟨nm, op, val⟩ ∧ MtBox W o ⟨nm, xo, val⟩ ∧ TS w w2 w1.heap.size W) ⟨HX4.out.far (fun e => hpo e.symm), HO4.out.setOp xo, HT4.out.set (by have := HT4.out.bl.size; have := hpl; omega) (.inr (by omega))⟩ (fun w6 hw6 => ?_)
 obtain ⟨hX6, hO6, hT6⟩ := hw6
 have HX6 := Lib.hid hX6
 have HO6 := Lib.hid hO6
 have HT6 := Lib.hid hT6
 have SK : Hid (∀ W, Below w6.heap.size w6 W → (W.cell? ⟨w.heap.size, 0, none⟩ = some (.string nm) ∧ W.cell? ⟨w.heap.size, 1, none⟩ = some (.int .i64 op) ∧ W.cell? ⟨w.heap.size, 2, none⟩ = some (.string val)) ∧ W.cell? ⟨o, 0, none⟩ = some (.string nm) ∧ W.cell? ⟨o, 1, none⟩ = some (.int .i64 xo) ∧ W.cell? ⟨o, 2, none⟩ = some (.string val)) := Lib.hid (fun W h => ⟨⟨(HX6.out.later h).c0, (HX6.out.later h).c1, (HX6.out.later h).c2⟩, (HO6.out.later h).c0, (HO6.out.later h).c1, (HO6.out.later h).c2⟩)
 have hLl : L.length ≤ 1000000000000 := by have := HGL.out; omega
 have KFI := Lib.hid (fun W => mfine_any ⟨nm, op, val⟩ W HCF.out)
 have KM := Lib.hid (fun W (h : Below w6.heap.size w6 W) => fits_any L ⟨nm, op, val⟩ W gv (HTF.out W (HT6.out.later h)) hLl HGF.out HCF.out)
 have KO := Lib.hid (fun W (h : Below w6.heap.size w6 W) => fits_any L ⟨nm, xo, val⟩ W gv (HTF.out W (HT6.out.later h)) hLl HGF.out ⟨HCF.out.1, HCF.out.2⟩)
 have hgvs : ∃ ga gc, gv = .slice ga L.length gc := by
  obtain ⟨ga, gc, h, _, _⟩ := RdAt.shape (HTF.out w6 hT6)
  exact ⟨ga, gc, h⟩
 obtain ⟨ga, gc, rfl⟩ := hgvs
 obtain ⟨F, hF⟩ : ∃ F, fineM ⟨nm, op, val⟩ = F := ⟨_, rfl⟩
 have HF := Lib.hid hF
 rw [hF] at KFI
 obtain ⟨FM, hFM⟩ : ∃ F, fitM L ⟨nm, op, val⟩ = F := ⟨_, rfl⟩
 have HFM := Lib.hid hFM
 rw [hFM] at KM
 obtain ⟨FO, hFO⟩ : ∃ F, fitM L ⟨nm, xo, val⟩ = F := ⟨_, rfl⟩
 have HFO' := Lib.hid hFO
 rw [hFO] at KO
 clear hX6 hO6 hT6 hF hFM hFO hxo c1 d1 y1 HX4 HO4 HT4
 go_cut [42] (fun s42 wx => s42 = .bool false ∧ Below w6.heap.size w6 wx)
 case first =>
  cases F with
  | true =>
   obtain ⟨_, ho0, ho3, _, _⟩ := fineM_true HF.out
   have hturn : FO = !FM := by
    have e := bits_turn ho0 ho3 nm val
    rw [HXO.out] at e
    rw [← HFM.out, ← HFO'.out, ← turn_fits L HF.out]
    show fitM L ⟨nm, xo, val⟩ = fitM L ⟨nm, (turnM ⟨nm, op, val⟩).op, val⟩
    rw [e]
   have hfm : (FM == FO) = false := by rw [hturn]; cases FM <;> rfl
   clear hturn ho0 ho3
   refine wp_region_held_drew (S := (fun W => (W.cell? ⟨w.heap.size, 0, none⟩ = some (.string nm) ∧ W.cell? ⟨w.heap.size, 1, none⟩ = some (.int .i64 op) ∧ W.cell? ⟨w.heap.size, 2, none⟩ = some (.string val)) ∧ W.cell? ⟨o, 0, none⟩ = some (.string nm) ∧ W.cell? ⟨o, 1, none⟩ = some (.int .i64 xo) ∧ W.cell? ⟨o, 2, none⟩ = some (.string val))) (by kernel_rfl) (SK.out _ ((Below.refl _ _).drew)) (fun hHeld => ?_)
   have hbd : Below w6.heap.size w6 w6.drew := (Below.refl _ _).drew
   have HBD := Lib.hid hbd
   clear hbd
   generalize w6.drew = wd at *
   refine hT (i := 0) (v := ?_) rfl rfl hHeld ?_ ?_
   rotate_left
   ·rintro wh ⟨⟨z0, z1, z2⟩, z3, z4, z5⟩
    go_simp
    (try with_reducible rfl)
   simp only [Act.put, List.setIfInBounds_toArray, List.set_cons_zero, List.set_cons_succ]
   refine held_call (i := 1) rfl (by kernel_rfl) (by rfl) (fun K hK => ?_)
   go_simp; refine (KFI.out _).mono ?_; rintro e x1 ⟨rfl, hb1⟩; have HC1 := Lib.hid (HBD.out.trans (hb1.mono HBD.out.size)); clear hb1
   refine hK.out _ _ (SK.out _ HC1.out) (fun hHeld => ?_)
   clear hK K
   (try simp only [Act.put, List.setIfInBounds_toArray, List.set_cons_zero, List.set_cons_succ])
   refine plIn [2, 3, 4, 6, 7] ?_
   iterate 5
    refine hP (v := ?_) rfl rfl hHeld ?_ ?_
    rotate_left
    ·rintro wh ⟨⟨z0, z1, z2⟩, z3, z4, z5⟩
     go_simp
     (try with_reducible rfl)
    simp only [Act.put, List.setIfInBounds_toArray, List.set_cons_zero, List.set_cons_succ]
   refine plOut ?_
   refine held_call (i := 5) rfl (by kernel_rfl) (by rfl) (fun K hK => ?_)
   go_simp; refine (KM.out _ HC1.out).mono ?_; rintro e x2 ⟨rfl, hb2⟩; have HC2 := Lib.hid (HC1.out.trans (hb2.mono HC1.out.size)); clear hb2
   refine hK.out _ _ (SK.out _ HC2.out) (fun hHeld => ?_)
   clear hK K
   (try simp only [Act.put, List.setIfInBounds_toArray, List.set_cons_zero, List.set_cons_succ])
   refine held_call (i := 8) rfl (by kernel_rfl) (by rfl) (fun K hK => ?_)
   go_simp; refine (KO.out _ HC2.out).mono ?_; rintro e x3 ⟨rfl, hb3⟩; have HC3 := Lib.hid (HC2.out.trans (hb3.mono HC2.out.size)); clear hb3
   refine hK.out _ _ (SK.out _ HC3.out) (fun hHeld => ?_)
   clear hK K
   (try simp only [Act.put, List.setIfInBounds_toArray, List.set_cons_zero, List.set_cons_succ])
   refine plIn [9, 10, 11, 12] ?_
   iterate 4
    refine hP (v := ?_) rfl rfl hHeld ?_ ?_
    rotate_left
    ·rintro wh ⟨⟨z0, z1, z2⟩, z3, z4, z5⟩
     go_simp
     (try with_reducible rfl)
    simp only [Act.put, List.setIfInBounds_toArray, List.set_cons_zero, List.set_cons_succ]
   refine plOut ?_
   refine held_call (i := 13) rfl (by kernel_rfl) (by rfl) (fun K hK => ?_)
   go_simp; refine (KFI.out _).mono ?_; rintro e x4 ⟨rfl, hb4⟩; have HC4 := Lib.hid (HC3.out.trans (hb4.mono HC3.out.size)); clear hb4
   refine hK.out _ _ (SK.out _ HC4.out) (fun hHeld => ?_)
   clear hK K
   (try simp only [Act.put, List.setIfInBounds_toArray, List.set_cons_zero, List.set_cons_succ])
   refine plIn [14, 15] ?_
   iterate 2
    refine hP (v := ?_) rfl rfl hHeld ?_ ?_
    rotate_left
    ·rintro wh ⟨⟨z0, z1, z2⟩, z3, z4, z5⟩
     go_simp
     (try with_reducible rfl)
    simp only [Act.put, List.setIfInBounds_toArray, List.set_cons_zero, List.set_cons_succ]
   refine plOut ?_
   refine plIn [16, 17, 18] ?_
   iterate 3
    refine hK rfl rfl hHeld ?_
    simp only [Act.put, List.setIfInBounds_toArray, List.set_cons_zero, List.set_cons_succ]
   refine plOut ?_
   refine plIn [19, 20] ?_
   iterate 2
    refine hP (v := ?_) rfl rfl hHeld ?_ ?_
    rotate_left
    ·rintro wh ⟨⟨z0, z1, z2⟩, z3, z4, z5⟩
     go_simp
     (try with_reducible rfl)
    simp only [Act.put, List.setIfInBounds_toArray, List.set_cons_zero, List.set_cons_succ]
   refine plOut ?_
   refine wpAnyH_done (by kernel_rfl) ?_ _
   go_wp2
   go_meet
   case rel => exact ⟨rfl, HC4.out⟩
  | false =>
   have hfm : FM = false := by
    rw [← HFM.out]
    unfold fitM
    rw [HF.out]
    rfl
   subst hfm
   refine wp_region_held_drew (S := (fun W => (W.cell? ⟨w.heap.size, 0, none⟩ = some (.string nm) ∧ W.cell? ⟨w.heap.size, 1, none⟩ = some (.int .i64 op) ∧ W.cell? ⟨w.heap.size, 2, none⟩ = some (.string val)) ∧ W.cell? ⟨o, 0, none⟩ = some (.string nm) ∧ W.cell? ⟨o, 1, none⟩ = some (.int .i64 xo) ∧ W.cell? ⟨o, 2, none⟩ = some (.string val))) (by kernel_rfl) (SK.out _ ((Below.refl _ _).drew)) (fun hHeld => ?_)
   have hbd : Below w6.heap.size w6 w6.drew := (Below.refl _ _).drew
   have HBD := Lib.hid hbd
   clear hbd
   generalize w6.drew = wd at *
   refine hT (i := 0) (v := ?_) rfl rfl hHeld ?_ ?_
   rotate_left
   ·rintro wh ⟨⟨z0, z1, z2⟩, z3, z4, z5⟩
    go_simp
    (try with_reducible rfl)
   simp only [Act.put, List.setIfInBounds_toArray, List.set_cons_zero, List.set_cons_succ]
   refine held_call (i := 1) rfl (by kernel_rfl) (by rfl) (fun K hK => ?_)
   go_simp; refine (KFI.out _).mono ?_; rintro e x1 ⟨rfl, hb1⟩; have HC1 := Lib.hid (HBD.out.trans (hb1.mono HBD.out.size)); clear hb1
   refine hK.out _ _ (SK.out _ HC1.out) (fun hHeld => ?_)
   clear hK K
   (try simp only [Act.put, List.setIfInBounds_toArray, List.set_cons_zero, List.set_cons_succ])
   refine hT (i := 2) (v := ?_) rfl rfl hHeld ?_ ?_
   rotate_left
   ·rintro wh ⟨⟨z0, z1, z2⟩, z3, z4, z5⟩
    go_simp
    (try with_reducible rfl)
   simp only [Act.put, List.setIfInBounds_toArray, List.set_cons_zero, List.set_cons_succ]
   refine plIn [3, 4, 5, 6, 7, 8, 9] ?_
   iterate 7
    refine hK rfl rfl hHeld ?_
    simp only [Act.put, List.setIfInBounds_toArray, List.set_cons_zero, List.set_cons_succ]
   refine plOut ?_
   refine plIn [10, 11, 12] ?_
   iterate 3
    refine hP (v := ?_) rfl rfl hHeld ?_ ?_
    rotate_left
    ·rintro wh ⟨⟨z0, z1, z2⟩, z3, z4, z5⟩
     go_simp
     (try with_reducible rfl)
    simp only [Act.put, List.setIfInBounds_toArray, List.set_cons_zero, List.set_cons_succ]
   refine plOut ?_
   refine held_call (i := 13) rfl (by kernel_rfl) (by rfl) (fun K hK => ?_)
   go_simp; refine (KFI.out _).mono ?_; rintro e x2 ⟨rfl, hb2⟩; have HC2 := Lib.hid (HC1.out.trans (hb2.mono HC1.out.size)); clear hb2
   refine hK.out _ _ (SK.out _ HC2.out) (fun hHeld => ?_)
   clear hK K
   (try simp only [Act.put, List.setIfInBounds_toArray, List.set_cons_zero, List.set_cons_succ])
   refine plIn [14, 15, 16, 17] ?_
   iterate 4
    refine hP (v := ?_) rfl rfl hHeld ?_ ?_
    rotate_left
    ·rintro wh ⟨⟨z0, z1, z2⟩, z3, z4, z5⟩
     go_simp
     (try with_reducible rfl)
    simp only [Act.put, List.setIfInBounds_toArray, List.set_cons_zero, List.set_cons_succ]
   refine plOut ?_
   refine held_call (i := 18) rfl (by kernel_rfl) (by rfl) (fun K hK => ?_)
   go_simp; refine (KM.out _ HC2.out).mono ?_; rintro e x3 ⟨rfl, hb3⟩; have HC3 := Lib.hid (HC2.out.trans (hb3.mono HC2.out.size)); clear hb3
   refine hK.out _ _ (SK.out _ HC3.out) (fun hHeld => ?_)
   clear hK K
   (try simp only [Act.put, List.setIfInBounds_toArray, List.set_cons_zero, List.set_cons_succ])
   refine plIn [19, 20] ?_
   iterate 2
    refine hP (v := ?_) rfl rfl hHeld ?_ ?_
    rotate_left
    ·rintro wh ⟨⟨z0, z1, z2⟩, z3, z4, z5⟩
     go_simp
     (try with_reducible rfl)
    simp only [Act.put, List.setIfInBounds_toArray, List.set_cons_zero, List.set_cons_succ]
   refine plOut ?_
   refine wpAnyH_done (by kernel_rfl) ?_ _
   go_wp2
   go_meet
   case rel => exact ⟨rfl, HC3.out⟩
 case rest =>
  obtain ⟨rfl, hcw⟩ := hcut
  have HX7 := Lib.hid (HX6.out.later hcw)
  have HT7 := Lib.hid (HT6.out.later hcw)
  clear hcw SK KO KM KFI HO6 HX6 HT6 HF HFM HFO' HXO
  generalize wc = w7 at *
  go_upto_region 9 with fail
  have c0 := HX7.out.c0
  have c1 := HX7.out.c1
  have c2 := HX7.out.c2
  have hsz7 := HT7.out.sz
  have hpx := HX7.out.lt
  go_cut [6, 7] (fun s6 s7 wx => ∃ gi gl, s6 = .pointer (some ⟨gi, 0, none⟩) ∧ s7 = .pointer (some ⟨gl, 0, none⟩) ∧ gi ≠ gl ∧ w2.heap.size ≤ gi ∧ w2.heap.size ≤ gl ∧ MtBox wx gi ⟨nm, op, val⟩ ∧ MtBox wx gl ⟨nm, op, val⟩ ∧ Below w7.heap.size w7 wx)
  case first =>
   go_region
   all_goals (go_wp2_with fail)
   all_goals
    go_meet
    have hb1 := alloc_below w7 (.cells #[.string nm, .int .i64 op, .string val] 29)
    have hb2 := alloc_below (w7.alloc (.cells #[.string nm, .int .i64 op, .string val] 29)) (.cells #[.string nm, .int .i64 op, .string val] 29)
    have q1 := (MtBox.new w7 ⟨nm, op, val⟩).later hb2
    have q2 := MtBox.new (w7.alloc (.cells #[.string nm, .int .i64 op, .string val] 29)) ⟨nm, op, val⟩
    have qz := World.size_alloc w7 (.cells #[.string nm, .int .i64 op, .string val] 29)
    rw [qz] at q2
    have hd : ∀ W : World, Below W.heap.size W W.drew := fun W => (Below.refl _ _).drew
    have hbl := (hb1.trans (hb2.mono hb1.size)).trans ((hd _).mono (Nat.le_trans hb1.size hb2.size))
    first
     | exact ⟨w7.heap.size, w7.heap.size + 1, rfl, rfl, by omega, by omega, by omega, q1.later (hd _), q2.later (hd _), hbl⟩
     | exact ⟨w7.heap.size + 1, w7.heap.size, rfl, rfl, by omega, by omega, by omega, q2.later (hd _), q1.later (hd _), hbl⟩
  case rest =>
   obtain ⟨gi, gl, rfl, rfl, hgl, hgi2, hgl2, hI, hLk, hb8⟩ := hcut
   have HX8 := Lib.hid (HX7.out.later hb8)
   have HT8 := Lib.hid (HT7.out.later hb8)
   have HI := Lib.hid hI
   have HLK := Lib.hid hLk
   have e1 := hI.c1
   have e2 := hLk.c1
   have y1 := there_free hI.th 1 (by omega)
   have y2 := there_free hLk.th 1 (by omega)
   clear hI hLk hb8 c0 c1 c2 HX7 HT7
   go_upto_region 12 with fail
   refine wp_forgetB (fun W => MtBox W gi ⟨nm, 0, val⟩ ∧ MtBox W gl ⟨nm, 2, val⟩ ∧ MtBox W w.heap.size ⟨nm, op, val⟩ ∧ TS w w2 w1.heap.size W) ⟨(HI.out.setOp 0).far (fun e => hgl e.symm), (HLK.out.far hgl).setOp 2, (HX8.out.far (by omega)).far (by omega), (HT8.out.set (by omega) (.inr hgi2)).set (by omega) (.inr hgl2)⟩ (fun w9 hw9 => ?_)
   obtain ⟨hI9, hL9, hX9, hT9⟩ := hw9
   have c2 := hX9.c2
   have kq := refquote_is val w9 (by have := HCZ.out; omega)
   have HI9 := Lib.hid hI9
   have HL9 := Lib.hid hL9
   have HT9 := Lib.hid hT9
   clear hI9 hL9 hX9 hT9 e1 e2 y1 y2 HX8 HT8 HI HLK
   go_wp2_with fail
   refine kq.mono ?_
   rintro e w10 ⟨rfl, hb10⟩
   have HI10 := Lib.hid (HI9.out.later hb10)
   have HL10 := Lib.hid (HL9.out.later hb10)
   have HT10 := Lib.hid (HT9.out.later hb10)
   have e2 := HL10.out.c2
   have y2 := there_free HL10.out.th 2 (by omega)
   clear kq hb10 HI9 HL9 HT9 c2
   go_upto_region 13 with fail
   refine wp_forgetB (fun W => MtBox W gi ⟨nm, 0, val⟩ ∧ MtBox W gl ⟨nm, 2, quoteB val⟩ ∧ TS w w2 w1.heap.size W) ⟨HI10.out.far (fun e => hgl e.symm), HL10.out.setVal (quoteB val), HT10.out.set (by omega) (.inr hgl2)⟩ (fun w11 hw11 => ?_)
   obtain ⟨hI11, hL11, hT11⟩ := hw11
   have HI11 := Lib.hid hI11
   have HL11 := Lib.hid hL11
   have HT11 := Lib.hid hT11
   have hqz := quoteB_small HCZ.out
   have SK : Hid (∀ W, Below w11.heap.size w11 W → (W.cell? ⟨gi, 0, none⟩ = some (.string nm) ∧ W.cell? ⟨gi, 1, none⟩ = some (.int .i64 0) ∧ W.cell? ⟨gi, 2, none⟩ = some (.string val)) ∧ W.cell? ⟨gl, 0, none⟩ = some (.string nm) ∧ W.cell? ⟨gl, 1, none⟩ = some (.int .i64 2) ∧ W.cell? ⟨gl, 2, none⟩ = some (.string (quoteB val))) := Lib.hid (fun W h => ⟨⟨(HI11.out.later h).c0, (HI11.out.later h).c1, (HI11.out.later h).c2⟩, (HL11.out.later h).c0, (HL11.out.later h).c1, (HL11.out.later h).c2⟩)
   have KI := Lib.hid (fun W => mfine_any ⟨nm, 0, val⟩ W ⟨HCF.out.1, HCF.out.2⟩)
   have KL := Lib.hid (fun W => mfine_any ⟨nm, 2, quoteB val⟩ W ⟨HCF.out.1, hqz⟩)
   have KMI := Lib.hid (fun W (h : Below w11.heap.size w11 W) => fits_any L ⟨nm, 0, val⟩ W _ (HTF.out W (HT11.out.later h)) hLl HGF.out ⟨HCF.out.1, HCF.out.2⟩)
   have KML := Lib.hid (fun W (h : Below w11.heap.size w11 W) => fits_any L ⟨nm, 2, quoteB val⟩ W _ (HTF.out W (HT11.out.later h)) hLl HGF.out ⟨HCF.out.1, hqz⟩)
   have HQ := Lib.hid (quote_like L (m := ⟨nm, op, val⟩))
   clear hI11 hL11 hT11 e2 y2 HI10 HL10 HT10
   dsimp only at HQ
   generalize hqb : quoteB val = qv at *
   obtain ⟨F1, hF1⟩ : ∃ F, fineM ⟨nm, 0, val⟩ = F := ⟨_, rfl⟩
   obtain ⟨F2, hF2⟩ : ∃ F, fineM ⟨nm, 2, qv⟩ = F := ⟨_, rfl⟩
   obtain ⟨G1, hG1⟩ : ∃ F, fitM L ⟨nm, 0, val⟩ = F := ⟨_, rfl⟩
   obtain ⟨G2, hG2⟩ : ∃ F, fitM L ⟨nm, 2, qv⟩ = F := ⟨_, rfl⟩
   rw [hF1] at KI HQ
   rw [hF2] at KL HQ
   rw [hG1] at KMI HQ
   rw [hG2] at KML HQ
   clear hF1 hF2 hG1 hG2 hqb
   cases F1 with
   | false =>
    refine wp_region_held_drew (S := (fun W => (W.cell? ⟨gi, 0, none⟩ = some (.string nm) ∧ W.cell? ⟨gi, 1, none⟩ = some (.int .i64 0) ∧ W.cell? ⟨gi, 2, none⟩ = some (.string val)) ∧ W.cell? ⟨gl, 0, none⟩ = some (.string nm) ∧ W.cell? ⟨gl, 1, none⟩ = some (.int .i64 2) ∧ W.cell? ⟨gl, 2, none⟩ = some (.string qv))) (by kernel_rfl) (SK.out _ ((Below.refl _ _).drew)) (fun hHeld => ?_)
    have hbd : Below w11.heap.size w11 w11.drew := (Below.refl _ _).drew
    have HBD := Lib.hid hbd
    clear hbd
    generalize w11.drew = wd at *
    refine hT (i := 0) (v := ?_) rfl rfl hHeld ?_ ?_
    rotate_left
    ·rintro wh ⟨⟨z0, z1, z2⟩, z3, z4, z5⟩
     go_simp
     (try with_reducible rfl)
    simp only [Act.put, List.setIfInBounds_toArray, List.set_cons_zero, List.set_cons_succ]
    refine held_call (i := 1) rfl (by kernel_rfl) (by rfl) (fun K hK => ?_)
    go_simp; refine (KI.out _).mono ?_; rintro e x1 ⟨rfl, hb1⟩; have HC1 := Lib.hid (HBD.out.trans (hb1.mono HBD.out.size)); clear hb1
    refine hK.out _ _ (SK.out _ HC1.out) (fun hHeld => ?_)
    clear hK K
    (try simp only [Act.put, List.setIfInBounds_toArray, List.set_cons_zero, List.set_cons_succ])
    refine plIn [2, 3] ?_
    iterate 2
     refine hP (v := ?_) rfl rfl hHeld ?_ ?_
     rotate_left
     ·rintro wh ⟨⟨z0, z1, z2⟩, z3, z4, z5⟩
      go_simp
      (try with_reducible rfl)
     simp only [Act.put, List.setIfInBounds_toArray, List.set_cons_zero, List.set_cons_succ]
    refine plOut ?_
    refine plIn [4, 5, 6] ?_
    iterate 3
     refine hK rfl rfl hHeld ?_
     simp only [Act.put, List.setIfInBounds_toArray, List.set_cons_zero, List.set_cons_succ]
    refine plOut ?_
    refine plIn [7, 8] ?_
    iterate 2
     refine hP (v := ?_) rfl rfl hHeld ?_ ?_
     rotate_left
     ·rintro wh ⟨⟨z0, z1, z2⟩, z3, z4, z5⟩
      go_simp
      (try with_reducible rfl)
     simp only [Act.put, List.setIfInBounds_toArray, List.set_cons_zero, List.set_cons_succ]
    refine plOut ?_
    refine plIn [9, 10, 11, 12, 13, 14, 15] ?_
    iterate 7
     refine hK rfl rfl hHeld ?_
     simp only [Act.put, List.setIfInBounds_toArray, List.set_cons_zero, List.set_cons_succ]
    refine plOut ?_
    refine plIn [16, 17] ?_
    iterate 2
     refine hP (v := ?_) rfl rfl hHeld ?_ ?_
     rotate_left
     ·rintro wh ⟨⟨z0, z1, z2⟩, z3, z4, z5⟩
      go_simp
      (try with_reducible rfl)
     simp only [Act.put, List.setIfInBounds_toArray, List.set_cons_zero, List.set_cons_succ]
    refine plOut ?_
    refine wpAnyH_done (by kernel_rfl) ?_ _
    have HE := Lib.hid (HT11.out.bl.trans (HC1.out.mono HT11.out.bl.size))
    go_wp2
    go_ret
    exact ⟨rfl, HE.out⟩
   | true =>
    cases F2 with
    | false =>
     refine wp_region_held_drew (S := (fun W => (W.cell? ⟨gi, 0, none⟩ = some (.string nm) ∧ W.cell? ⟨gi, 1, none⟩ = some (.int .i64 0) ∧ W.cell? ⟨gi, 2, none⟩ = some (.string val)) ∧ W.cell? ⟨gl, 0, none⟩ = some (.string nm) ∧ W.cell? ⟨gl, 1, none⟩ = some (.int .i64 2) ∧ W.cell? ⟨gl, 2, none⟩ = some (.string qv))) (by kernel_rfl) (SK.out _ ((Below.refl _ _).drew)) (fun hHeld => ?_)
     have hbd : Below w11.heap.size w11 w11.drew := (Below.refl _ _).drew
     have HBD := Lib.hid hbd
     clear hbd
     generalize w11.drew = wd at *
     refine hT (i := 0) (v := ?_) rfl rfl hHeld ?_ ?_
     rotate_left
     ·rintro wh ⟨⟨z0, z1, z2⟩, z3, z4, z5⟩
      go_simp
      (try with_reducible rfl)
     simp only [Act.put, List.setIfInBounds_toArray, List.set_cons_zero, List.set_cons_succ]
     refine held_call (i := 1) rfl (by kernel_rfl) (by rfl) (fun K hK => ?_)
     go_simp; refine (KI.out _).mono ?_; rintro e x1 ⟨rfl, hb1⟩; have HC1 := Lib.hid (HBD.out.trans (hb1.mono HBD.out.size)); clear hb1
     refine hK.out _ _ (SK.out _ HC1.out) (fun hHeld => ?_)
     clear hK K
     (try simp only [Act.put, List.setIfInBounds_toArray, List.set_cons_zero, List.set_cons_succ])
     refine plIn [2, 3, 4] ?_
     iterate 3
      refine hP (v := ?_) rfl rfl hHeld ?_ ?_
      rotate_left
      ·rintro wh ⟨⟨z0, z1, z2⟩, z3, z4, z5⟩
       go_simp
       (try with_reducible rfl)
      simp only [Act.put, List.setIfInBounds_toArray, List.set_cons_zero, List.set_cons_succ]
     refine plOut ?_
     refine held_call (i := 5) rfl (by kernel_rfl) (by rfl) (fun K hK => ?_)
     go_simp; refine (KL.out _).mono ?_; rintro e x2 ⟨rfl, hb2⟩; have HC2 := Lib.hid (HC1.out.trans (hb2.mono HC1.out.size)); clear hb2
     refine hK.out _ _ (SK.out _ HC2.out) (fun hHeld => ?_)
     clear hK K
     (try simp only [Act.put, List.setIfInBounds_toArray, List.set_cons_zero, List.set_cons_succ])
     refine plIn [6, 7, 8] ?_
     iterate 3
      refine hP (v := ?_) rfl rfl hHeld ?_ ?_
      rotate_left
      ·rintro wh ⟨⟨z0, z1, z2⟩, z3, z4, z5⟩
       go_simp
       (try with_reducible rfl)
      simp only [Act.put, List.setIfInBounds_toArray, List.set_cons_zero, List.set_cons_succ]
     refine plOut ?_
     refine plIn [9, 10, 11, 12, 13, 14, 15] ?_
     iterate 7
      refine hK rfl rfl hHeld ?_
      simp only [Act.put, List.setIfInBounds_toArray, List.set_cons_zero, List.set_cons_succ]
     refine plOut ?_
     refine plIn [16, 17] ?_
     iterate 2
      refine hP (v := ?_) rfl rfl hHeld ?_ ?_
      rotate_left
      ·rintro wh ⟨⟨z0, z1, z2⟩, z3, z4, z5⟩
       go_simp
       (try with_reducible rfl)
      simp only [Act.put, List.setIfInBounds_toArray, List.set_cons_zero, List.set_cons_succ]
     refine plOut ?_
     refine wpAnyH_done (by kernel_rfl) ?_ _
     have HE := Lib.hid (HT11.out.bl.trans (HC2.out.mono HT11.out.bl.size))
     go_wp2
     go_ret
     exact ⟨rfl, HE.out⟩
    | true =>
     obtain rfl : G2 = G1 := HQ.out rfl rfl
     have hgg : (G2 == G2) = true := by simp
     refine wp_region_held_drew (S := (fun W => (W.cell? ⟨gi, 0, none⟩ = some (.string nm) ∧ W.cell? ⟨gi, 1, none⟩ = some (.int .i64 0) ∧ W.cell? ⟨gi, 2, none⟩ = some (.string val)) ∧ W.cell? ⟨gl, 0, none⟩ = some (.string nm) ∧ W.cell? ⟨gl, 1, none⟩ = some (.int .i64 2) ∧ W.cell? ⟨gl, 2, none⟩ = some (.string qv))) (by kernel_rfl) (SK.out _ ((Below.refl _ _).drew)) (fun hHeld => ?_)
     have hbd : Below w11.heap.size w11 w11.drew := (Below.refl _ _).drew
     have HBD := Lib.hid hbd
     clear hbd
     generalize w11.drew = wd at *
     refine hT (i := 0) (v := ?_) rfl rfl hHeld ?_ ?_
     rotate_left
     ·rintro wh ⟨⟨z0, z1, z2⟩, z3, z4, z5⟩
      go_simp
      (try with_reducible rfl)
     simp only [Act.put, List.setIfInBounds_toArray, List.set_cons_zero, List.set_cons_succ]
     refine held_call (i := 1) rfl (by kernel_rfl) (by rfl) (fun K hK => ?_)
     go_simp; refine (KI.out _).mono ?_; rintro e x1 ⟨rfl, hb1⟩; have HC1 := Lib.hid (HBD.out.trans (hb1.mono HBD.out.size)); clear hb1
     refine hK.out _ _ (SK.out _ HC1.out) (fun hHeld => ?_)
     clear hK K
     (try simp only [Act.put, List.setIfInBounds_toArray, List.set_cons_zero, List.set_cons_succ])
     refine plIn [2, 3, 4] ?_
     iterate 3
      refine hP (v := ?_) rfl rfl hHeld ?_ ?_
      rotate_left
      ·rintro wh ⟨⟨z0, z1, z2⟩, z3, z4, z5⟩
       go_simp
       (try with_reducible rfl)
      simp only [Act.put, List.setIfInBounds_toArray, List.set_cons_zero, List.set_cons_succ]
     refine plOut ?_
     refine held_call (i := 5) rfl (by kernel_rfl) (by rfl) (fun K hK => ?_)
     go_simp; refine (KL.out _).mono ?_; rintro e x2 ⟨rfl, hb2⟩; have HC2 := Lib.hid (HC1.out.trans (hb2.mono HC1.out.size)); clear hb2
     refine hK.out _ _ (SK.out _ HC2.out) (fun hHeld => ?_)
     clear hK K
     (try simp only [Act.put, List.setIfInBounds_toArray, List.set_cons_zero, List.set_cons_succ])
     refine plIn [6, 7, 8, 9, 10, 12, 13] ?_
     iterate 7
      refine hP (v := ?_) rfl rfl hHeld ?_ ?_
      rotate_left
      ·rintro wh ⟨⟨z0, z1, z2⟩, z3, z4, z5⟩
       go_simp
       (try with_reducible rfl)
      simp only [Act.put, List.setIfInBounds_toArray, List.set_cons_zero, List.set_cons_succ]
     refine plOut ?_
     refine held_call (i := 11) rfl (by kernel_rfl) (by rfl) (fun K hK => ?_)
     go_simp; refine (KMI.out _ HC2.out).mono ?_; rintro e x3 ⟨rfl, hb3⟩; have HC3 := Lib.hid (HC2.out.trans (hb3.mono HC2.out.size)); clear hb3
     refine hK.out _ _ (SK.out _ HC3.out) (fun hHeld => ?_)
     clear hK K
     (try simp only [Act.put, List.setIfInBounds_toArray, List.set_cons_zero, List.set_cons_succ])
     refine held_call (i := 14) rfl (by kernel_rfl) (by rfl) (fun K hK => ?_)
     go_simp; refine (KML.out _ HC3.out).mono ?_; rintro e x4 ⟨rfl, hb4⟩; have HC4 := Lib.hid (HC3.out.trans (hb4.mono HC3.out.size)); clear hb4
     refine hK.out _ _ (SK.out _ HC4.out) (fun hHeld => ?_)
     clear hK K
     (try simp only [Act.put, List.setIfInBounds_toArray, List.set_cons_zero, List.set_cons_succ])
     refine plIn [15, 16, 17] ?_
     iterate 3
      refine hP (v := ?_) rfl rfl hHeld ?_ ?_
      rotate_left
      ·rintro wh ⟨⟨z0, z1, z2⟩, z3, z4, z5⟩
       go_simp
       (try with_reducible rfl)
      simp only [Act.put, List.setIfInBounds_toArray, List.set_cons_zero, List.set_cons_succ]
     refine plOut ?_
     refine wpAnyH_done (by kernel_rfl) ?_ _
     have HE := Lib.hid (HT11.out.bl.trans (HC4.out.mono HT11.out.bl.size))
     go_wp2
     go_ret
     exact ⟨rfl, HE.out⟩
theorem walk (v0 : Value) (l : List Fld) (v1 : Value) (m0 : Mt) (w : World) (hv : ArgFlds w v0 l) (hm : ArgMt v1 m0) :
  Calls Tryz.prog 5 #[v0, v1] w fun e w' => e = .returned (.bool true) ∧ Below w.heap.size w w' := by
 obtain ⟨rfl, hf⟩ := hm
 exact walk0 v0 l m0 w hv hf
end lawTurns
end Go.Proofs.YtgbapkechngnmaaGreat
/- MatchTurns: the card: whatever the arguments, the law returns true and its arguments read as they did. No condition. -/
namespace Go.Proofs.YtgbapkechngnmaaGreat.lawTurns
open Go.ChangeShapes Go.WideShapes Go.ChangeAt Go.RowKit
open Go.ChangeMaps (open_string)

set_option maxRecDepth 100000 in
theorem contract (H : Type) (enc : TypeId × Value → H) (W : World) (base : Nat) (args : Array Value) (ds gs : List (DataW H)) (before : List MemPlace)
  (hval : ∀ (j : Nat) t v, Tryz.f5.params[j]? = some t → args[j]? = some v → Value.okWide Tryz.prog W .any base t v)
  (hW : DataW.Whole enc Tryz.prog Tryz.f5.params.toList Rows.matchTurnsSpec.vars false W args.toList ds gs before) :
  Calls Tryz.prog 5 args W fun e W' => ∃ v, e = .returned v ∧ Rows.matchTurnsSpec.post enc Tryz.prog Tryz.f5 false true false false W args v W' := by
 have hW' := hW
 obtain ⟨p, q, hA0, hV, rfl, hfz, hnd⟩ := hW
 have hA : DataW.TrodAll enc Tryz.prog W 0 (fun _ => true) true Tryz.f5.params.toList args.toList ds p := hA0
 rw [Tryz.params5] at hA hval
 obtain ⟨v0, vs0, d0, ds0, p0, q0, hargs, rfl, rfl, h0, r0⟩ := trodAll_cons hA
 obtain ⟨v1, vs1, d1, ds1, p1, q1, rfl, rfl, rfl, h1, r1⟩ := trodAll_cons r0
 obtain ⟨rfl, rfl, rfl⟩ := trodAll_nil r1
 obtain rfl : args = #[v0, v1] := by cases args; simp_all
 obtain ⟨rfl, rfl⟩ := trodVars_none hV
 obtain ⟨x0, hx0⟩ := flds_of_arg (hval 0 22 v0 rfl rfl) h0
 obtain ⟨x1, hx1⟩ := mt_of_arg (hval 1 29 v1 rfl rfl) h1
 clear hA0
 refine (walk v0 x0 v1 x1 W hx0 hx1).mono ?_
 rintro e W' ⟨rfl, hb⟩
 exact ⟨_, rfl, law_post laidOut Tryz.underlying4 rfl rfl (by kernel_rfl) hW' rfl rfl rfl hb⟩

theorem laid_met (os : Os) : laidMet Tryz.prog Rows.matchTurnsRow.laid ((laidWorld os).forCall (fun _ _ => 0) ⟨#[], #[.slice none 0 0, .agg #[.string ⟨#[]⟩, .int .i64 0, .string ⟨#[]⟩]], []⟩).memory :=
 ⟨[], rfl, List.nodup_nil, fun _ _ h => by cases h⟩
theorem reads (os : Os) {H : Type} (enc : TypeId × Value → H) : ∃ places, DataW.whole enc Tryz.prog ((laidWorld os).forCall (fun _ _ => 0) ⟨#[], #[.slice none 0 0, .agg #[.string ⟨#[]⟩, .int .i64 0, .string ⟨#[]⟩]], []⟩).memory Tryz.f5.params.toList Rows.matchTurnsSpec.vars false (#[.slice none 0 0, .agg #[.string ⟨#[]⟩, .int .i64 0, .string ⟨#[]⟩]] : Array Value).toList 8 = some ([.nil, .agg [.lit (.string []), .lit (.int .i64 0), .lit (.string [])]], [], places) :=
 ⟨[], by kernel_rfl⟩

set_option maxRecDepth 100000 in
theorem lifted (os : Os) (started : os.Started) (H : Type) (enc : TypeId × Value → H) (F : Stop.Interp) :
  ReturnsInHanded {} Tryz.checked os 5 .any ((OpenSpec.ofChange Rows.matchTurnsSpec).preRow enc Tryz.prog Tryz.f5 Rows.matchTurnsRow.domain false Rows.matchTurnsRow.laid) (((OpenSpec.ofChange Rows.matchTurnsSpec).at F).post enc Tryz.prog Tryz.f5 false true false false) := by
 obtain ⟨places, hx⟩ := reads os enc
 refine returnsInHanded_of_row (C := Tryz.checked) (s := OpenSpec.ofChange Rows.matchTurnsSpec) ownNone started (by kernel_rfl) Tryz.func5
  (witness_row_at (enc := enc) (C := Tryz.checked) false (laidWorld os) #[.slice none 0 0, .agg #[.string ⟨#[]⟩, .int .i64 0, .string ⟨#[]⟩]] rfl (by kernel_rfl) (by kernel_rfl) (by kernel_rfl)
   (OpenSpec.preRow_of_cond 8 hx (by kernel_rfl) (fun k hk => by cases hk) (by kernel_rfl) (laid_met os))) ?_
 intro W base args ds gs before hval hW _ _ _ _ _ _
 exact contract H enc W base args ds gs before hval hW

theorem said : Rows.MatchTurnsSaid :=
 OpenClaim.holds_of_cond 5 Tryz.f5 rfl rfl rfl rfl rfl rfl rfl ⟨rfl, rfl, rfl, rfl, rfl⟩ rfl rfl rfl rfl rfl (by kernel_rfl) Tryz.func5 (by kernel_rfl)
  (of_decide_eq_true (by kernel_rfl)) (by unfold Func.isWrapper; first | (rw [if_pos (by decide +kernel)]; kernel_rfl) | (rw [if_neg (by decide +kernel)]; exact ⟨rfl, rfl⟩))
  (fun os started H enc _ F => by rw [OpenClaim.pre_eq_preRow]; exact lifted os started H enc F)

end Go.Proofs.YtgbapkechngnmaaGreat.lawTurns
