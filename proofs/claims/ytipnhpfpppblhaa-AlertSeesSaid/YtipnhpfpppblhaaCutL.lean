/- What an alert is, cut to a label, plainly; a box with an alert. -/
import Derived.Test.YtipnhpfpppblhaaAlCut
import Derived.Test.YtipnhpfpppblhaaRefMt
import Derived.Test.YtipnhpfpppblhaaHeldT
namespace Go.Proofs.Ytipnhpfpppblhaa
open Go.RowKit

def zAl : Al := ⟨⟨#[]⟩, [], 0, 0, 0, 0⟩
/-- what alert.Cut hands back -/
def cutAl (rs : List Nmd) (x : Al) (t : Int × Nat) : Al := if cutOk rs x.fl (x.lv, x.c) t then ⟨x.src, visL rs x.fl (x.lv, x.c) t, x.lv, x.c, x.fr, x.til⟩ else zAl
theorem cutAl_yes {rs : List Nmd} {x : Al} {t : Int × Nat} (h : cutOk rs x.fl (x.lv, x.c) t = true) : cutAl rs x t = ⟨x.src, visL rs x.fl (x.lv, x.c) t, x.lv, x.c, x.fr, x.til⟩ := if_pos h
theorem cutAl_no {rs : List Nmd} {x : Al} {t : Int × Nat} (h : cutOk rs x.fl (x.lv, x.c) t = false) : cutAl rs x t = zAl := if_neg (by rw [h]; decide)
theorem cut_l (s0 s1 s2 s4 s5 : Option Addr × Nat × Nat) (rs : List Nmd) (rv : Value) (x : Al) (fv : Value) (t : Int × Nat) (m : Al) (ok : Bool) (w : World) (hv : NmdsAt w rv rs) (hl : rs.length ≤ maxLen) (hf : FldsAt w fv x.fl) (hfl : x.fl.length ≤ 1000000000000)
    (hok : cutOk rs x.fl (x.lv, x.c) t = ok) (hm : cutAl rs x t = m) :
    Calls Try.prog 18 #[.agg #[SV s0, SV s1, SV s2, rv, SV s4, SV s5], AlV x fv, Lab t.1 t.2] w fun e w' =>
      ∃ pa pc, e = .returned (.tuple #[AlV m (.slice pa m.fl.length pc), .bool ok]) ∧ FldsAt w' (.slice pa m.fl.length pc) m.fl ∧ (∀ q, (Value.slice pa m.fl.length pc).ownBlock = some q → w.heap.size ≤ q) ∧ Below w.heap.size w w' := by
  refine (cut_any s0 s1 s2 s4 s5 rs rv x.src x.fl fv x.lv x.c x.fr x.til t.1 t.2 w hv hl hf hfl).mono ?_
  rintro e w' ⟨v', h1, h2, h3, rfl⟩
  rw [show (t.1, t.2) = t from rfl] at h1 ⊢
  rw [hok]
  unfold cutAl at hm
  rw [hok] at hm
  subst hm
  cases ok
  · exact ⟨none, 0, rfl, RdAt.nil w' 2, (fun q h => by cases h), h3⟩
  · obtain ⟨pa, pc, rfl, _, _⟩ := RdAt.shape h1
    exact ⟨pa, pc, rfl, h1, h2, h3⟩
/-! ### plain laws of what is cut -/
theorem flowsT {l : Int} {c : Nat} {m : Int} {d : Nat} {n : Int} {e : Nat} (h1 : flowsL l c m d = true) (h2 : flowsL m d n e = true) : flowsL l c n e = true := by
  unfold flowsL at *
  simp only [Bool.and_eq_true, decide_eq_true_eq] at *
  obtain ⟨⟨⟨a1, a2⟩, a3⟩, a4⟩ := h1
  obtain ⟨⟨⟨b1, b2⟩, b3⟩, b4⟩ := h2
  refine ⟨⟨⟨a1, b2⟩, by omega⟩, ?_⟩
  unfold subB at *
  rw [List.all_eq_true] at *
  intro k hk
  have ha := a4 k hk
  have hb := b4 k hk
  cases hc : c.testBit k <;> cases hd : d.testBit k <;> simp_all
theorem sub_meet (c d e : Nat) : subB c (d &&& e) = (subB c d && subB c e) := by
  unfold subB
  rw [Bool.eq_iff_iff]
  simp only [List.all_eq_true, Bool.and_eq_true, Nat.testBit_and]
  constructor
  · intro h
    refine ⟨fun k hk => ?_, fun k hk => ?_⟩ <;> (have := h k hk; revert this; cases c.testBit k <;> cases d.testBit k <;> cases e.testBit k <;> simp)
  · rintro ⟨h1, h2⟩ k hk
    have a := h1 k hk
    have b := h2 k hk
    revert a b
    cases c.testBit k <;> cases d.testBit k <;> cases e.testBit k <;> simp
theorem flows_meet {l : Int} {c : Nat} {s t : Int × Nat} (hs : rightL s.1 = true) (ht : rightL t.1 = true) : flowsL l c (meetL s t).1 (meetL s t).2 = (flowsL l c s.1 s.2 && flowsL l c t.1 t.2) := by
  unfold meetL
  rw [hs, ht]
  simp only [Bool.and_self, if_true]
  unfold flowsL
  rw [hs, ht, sub_meet]
  have hm : rightL (min s.1 t.1) = true := by
    unfold rightL at *
    rw [decide_eq_true_eq] at *
    omega
  have hd : decide (l ≤ min s.1 t.1) = (decide (l ≤ s.1) && decide (l ≤ t.1)) := by
    rw [Bool.eq_iff_iff]; simp only [decide_eq_true_eq, Bool.and_eq_true]; omega
  rw [hm, hd]
  cases rightL l <;> cases decide (l ≤ s.1) <;> cases decide (l ≤ t.1) <;> cases subB c s.2 <;> cases subB c t.2 <;> rfl
theorem vis_meet (rs : List Nmd) (fl : List Fld) (f : Int × Nat) {s t : Int × Nat} (hs : rightL s.1 = true) (ht : rightL t.1 = true) : visL rs (visL rs fl f s) f t = visL rs fl f (meetL s t) := by
  unfold visL
  rw [List.filter_filter]
  congr 1
  funext x
  unfold seesL
  rw [flows_meet hs ht]
  exact Bool.and_comm _ _
theorem vis_le (rs : List Nmd) (fl : List Fld) (f s : Int × Nat) : (visL rs fl f s).length ≤ fl.length := List.length_filter_le _ _
theorem vis_more (rs : List Nmd) (fl : List Fld) (f : Int × Nat) {s t : Int × Nat} (h : flowsL s.1 s.2 t.1 t.2 = true) : (visL rs fl f s).length ≤ (visL rs fl f t).length := by
  unfold visL
  rw [← List.countP_eq_length_filter, ← List.countP_eq_length_filter]
  exact List.countP_mono_left (fun x _ hx => flowsT hx h)
theorem sees_law (rs : List Nmd) (x : Al) {s t : Int × Nat} (hs : rightL s.1 = true) (ht : rightL t.1 = true) :
    (flowsL s.1 s.2 t.1 t.2 = true → cutOk rs x.fl (x.lv, x.c) s = true → cutOk rs x.fl (x.lv, x.c) t = true ∧ (cutAl rs x s).fl.length ≤ (cutAl rs x t).fl.length) ∧
    ((cutOk rs x.fl (x.lv, x.c) s && cutOk rs (cutAl rs x s).fl ((cutAl rs x s).lv, (cutAl rs x s).c) t) = cutOk rs x.fl (x.lv, x.c) (meetL s t)) ∧
    (cutOk rs x.fl (x.lv, x.c) (meetL s t) = true → cutAl rs (cutAl rs x s) t = cutAl rs x (meetL s t)) ∧
    (cutOk rs x.fl (x.lv, x.c) s = true → (cutAl rs x s).lv = x.lv ∧ (cutAl rs x s).c = x.c ∧ (cutAl rs x s).fr = x.fr ∧ (cutAl rs x s).til = x.til) := by
  have hvm := vis_meet rs x.fl (x.lv, x.c) hs ht
  have hfm : flowsL x.lv x.c (meetL s t).1 (meetL s t).2 = (flowsL x.lv x.c s.1 s.2 && flowsL x.lv x.c t.1 t.2) := flows_meet hs ht
  have hsub : (visL rs x.fl (x.lv, x.c) (meetL s t)).length ≤ (visL rs x.fl (x.lv, x.c) s).length := by rw [← hvm]; exact vis_le _ _ _ _
  have key : (cutOk rs x.fl (x.lv, x.c) s && cutOk rs (cutAl rs x s).fl ((cutAl rs x s).lv, (cutAl rs x s).c) t) = cutOk rs x.fl (x.lv, x.c) (meetL s t) := by
    cases hk : cutOk rs x.fl (x.lv, x.c) s
    · rw [Bool.false_and]
      symm
      rw [Bool.eq_false_iff] at hk ⊢
      intro hc
      apply hk
      unfold cutOk at hc ⊢
      dsimp only at hc ⊢
      rw [hfm] at hc
      simp only [Bool.and_eq_true, decide_eq_true_eq] at hc ⊢
      exact ⟨by omega, hc.2.1⟩
    · rw [Bool.true_and]
      unfold cutAl
      rw [hk, if_pos rfl]
      dsimp only
      unfold cutOk at hk ⊢
      dsimp only at hk ⊢
      simp only [Bool.and_eq_true, decide_eq_true_eq] at hk
      rw [hvm, hfm, hk.2, Bool.true_and]
  refine ⟨fun hf hk => ?_, key, fun hk => ?_, fun hk => ?_⟩
  · have hm := vis_more rs x.fl (x.lv, x.c) hf
    have hkt : cutOk rs x.fl (x.lv, x.c) t = true := by
      unfold cutOk at hk ⊢
      dsimp only at hk ⊢
      simp only [Bool.and_eq_true, decide_eq_true_eq] at hk ⊢
      exact ⟨by omega, flowsT hk.2 hf⟩
    refine ⟨hkt, ?_⟩
    unfold cutAl
    rw [hk, hkt, if_pos rfl, if_pos rfl]
    exact hm
  · rw [hk, Bool.and_eq_true] at key
    obtain ⟨k1, k2⟩ := key
    rw [cutAl_yes k2, cutAl_yes hk, cutAl_yes k1]
    dsimp only
    rw [hvm]
  · unfold cutAl
    rw [hk, if_pos rfl]
    exact ⟨rfl, rfl, rfl, rfl⟩
/-! ### boxes -/
/-- a box with an alert, and its fields -/
structure ABx (g : Nat) (src : ByteArray) (L : List Fld) (a : Option Addr) (m : Nat) (lv : Int) (c : Nat) (fr til : Int) (W : World) : Prop where
  x : C6 g (.string src) (.slice a L.length m) (.int .i64 lv) (.int .u32 c) (.int .i64 fr) (.int .i64 til) W
  lt : g < W.heap.size
  f : FldsAt W (.slice a L.length m) L
theorem ABx.later {g : Nat} {src : ByteArray} {L : List Fld} {a : Option Addr} {m : Nat} {lv : Int} {c : Nat} {fr til : Int} {W W' : World} (h : ABx g src L a m lv c fr til W) (hb : Below W.heap.size W W') : ABx g src L a m lv c fr til W' :=
  ⟨h.x.later hb h.lt, Nat.lt_of_lt_of_le h.lt hb.size, h.f.later hb⟩
theorem abx_new {W1 : World} {src : ByteArray} {L : List Fld} {a : Option Addr} {m : Nat} {lv : Int} {c : Nat} {fr til : Int} {t : TypeId} (hf : FldsAt W1 (.slice a L.length m) L) :
    ABx W1.heap.size src L a m lv c fr til (W1.alloc (.cells #[.string src, .slice a L.length m, .int .i64 lv, .int .u32 c, .int .i64 fr, .int .i64 til] t)) := by
  obtain ⟨hX, hlt, _⟩ := box6 (Below.refl (W1.alloc (.cells #[.string src, .slice a L.length m, .int .i64 lv, .int .u32 c, .int .i64 fr, .int .i64 til] t)).heap.size _)
  exact ⟨hX, hlt, hf.later (alloc_below _ _)⟩
end Go.Proofs.Ytipnhpfpppblhaa
