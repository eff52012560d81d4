/- What several claims of this seat share: contracts of the functions that they reach. -/
import Derived.Test.YtipnhpfpppblhaaGreatU13P1
import Derived.Test.YtipnhpfpppblhaaGreatShelf
import Derived.Shelf.SlicesQ.IndexFunc
import Derived.Test.YtipnhpfpppblhaaGreatRd
import Derived.RangeFuncCalls
import Derived.RangeFuncNested
import Derived.OrdersHeld
import Derived.OrdersIn
import Derived.Deep.RegionHeld3
import Derived.Test.YtipnhpfpppblhaaGreatName
import Derived.Deep.MidRow
import Derived.Test.YtipnhpfpppblhaaGreatRows
import Derived.WalkKit
import Derived.WalkSpells
import Derived.WalkLawsBesides
import Derived.BigQuiet
import Derived.Deep.QuietTactic
import Derived.Lib.Hide
import Derived.Deep.DeepCutAuto
import Derived.Laws.Tables
import Derived.Great.BuildSlice

/- Several parts in one: Matchers: what lies in memory; match.Fine, Value, is, not: contracts. slices.IndexFunc and ContainsFunc at matchers and at fields, whatever the closure: contracts; match.Value. -/
namespace Go.Proofs.YtipnhpfpppblhaaGreat
open Go.RowKit
structure Mt where
 nm : ByteArray
 op : Int
 val : ByteArray
instance : Inhabited Mt := ⟨⟨⟨#[]⟩, 0, ⟨#[]⟩⟩⟩
def mtC (m : Mt) : List Value := [.string m.nm, .int .i64 m.op, .string m.val]
abbrev mtV (m : Mt) : Value := .agg #[.string m.nm, .int .i64 m.op, .string m.val]
def mtCells : List Mt → List Value
 | [] => []
 | m :: l => .string m.nm :: .int .i64 m.op :: .string m.val :: mtCells l
theorem mtCells_at (l : List Mt) (i : Nat) (h : i < l.length) : (mtCells l)[i * 3]? = some (.string l[i].nm) ∧ (mtCells l)[i * 3 + 1]? = some (.int .i64 l[i].op) ∧ (mtCells l)[i * 3 + 2]? = some (.string l[i].val) := by
 induction l generalizing i with
 | nil => cases h
 | cons s l ih =>
  cases i with
  | zero => simp [mtCells]
  | succ i =>
   obtain ⟨h1, h2, h3⟩ := ih i (by simpa using h)
   have e : (i + 1) * 3 = i * 3 + 3 := by omega
   rw [e]
   simp only [mtCells, List.getElem_cons_succ]
   refine ⟨?_, ?_, ?_⟩
   ·rw [show i * 3 + 3 = i * 3 + 1 + 1 + 1 by omega]; simpa using h1
   ·rw [show i * 3 + 3 + 1 = i * 3 + 1 + 1 + 1 + 1 by omega]; simpa using h2
   ·rw [show i * 3 + 3 + 2 = i * 3 + 2 + 1 + 1 + 1 by omega]; simpa using h3
def MtsAt (w : World) (v : Value) (l : List Mt) : Prop := RdAt w v l.length 3 (mtCells l)
theorem MtsAt.later {w w' : World} {v : Value} {l : List Mt} (h : MtsAt w v l) (hb : Below w.heap.size w w') : MtsAt w' v l := RdAt.later h hb
def MtFit (m : Mt) : Prop := m.nm.size ≤ maxLen ∧ m.val.size ≤ maxLen
def MtsFit (l : List Mt) : Prop := ∀ m ∈ l, MtFit m
def fineM (m : Mt) : Bool := nameL (B m.nm) && decide (0 ≤ m.op) && decide (m.op ≤ 3) && decide (m.val.size ≤ 200) && (decide (m.op < 2) || decide (errM m.val = 0))
theorem fineM_true {m : Mt} (h : fineM m = true) : nameL (B m.nm) = true ∧ 0 ≤ m.op ∧ m.op ≤ 3 ∧ m.val.size ≤ 200 ∧ (m.op < 2 ∨ errM m.val = 0) := by
 unfold fineM at h
 simp only [Bool.and_eq_true, Bool.or_eq_true, decide_eq_true_eq] at h
 obtain ⟨⟨⟨⟨h1, h2⟩, h3⟩, h4⟩, h5⟩ := h
 exact ⟨h1, h2, h3, h4, h5⟩
theorem box3m {w W : World} {a b c : Value} {t : TypeId} (hb : Below (w.alloc (.cells #[a, b, c] t)).heap.size (w.alloc (.cells #[a, b, c] t)) W) :
  (W.cell? ⟨w.heap.size, 0, none⟩ = some a ∧ W.cell? ⟨w.heap.size, 1, none⟩ = some b ∧ W.cell? ⟨w.heap.size, 2, none⟩ = some c) ∧ w.heap.size < W.heap.size ∧ Below w.heap.size w W := by
 obtain ⟨h, h2, h3⟩ := box_cells hb
 exact ⟨⟨h 0 _ rfl, h 1 _ rfl, h 2 _ rfl⟩, h2, h3⟩
set_option maxHeartbeats 1600000 in
set_option maxRecDepth 100000 in
theorem mfine_any (m : Mt) (w : World) (hf : MtFit m) : Calls Tryz.prog 82 #[.agg #[.string m.nm, .int .i64 m.op, .string m.val]] w fun e w' => e = .returned (.bool (fineM m)) ∧ Below w.heap.size w w' := by
 have kn := fun W => name_any m.nm W hf.1
 have kr := fun W => right_is m.val W
 have hz := hf.2
 have HF : Hid (fineM m = (nameL (B m.nm) && decide (0 ≤ m.op) && decide (m.op ≤ 3) && decide (m.val.size ≤ 200) && (decide (m.op < 2) || decide (errM m.val = 0)))) := Lib.hid rfl
 obtain ⟨nm, op, val⟩ := m
 dsimp only at *
 generalize fineM ⟨nm, op, val⟩ = R at *
 generalize nameL (B nm) = N at *
 have HR := Lib.hid kr
 unfold maxLen at hz
 clear hf kr
 have kn0 := kn (w.alloc (.cells #[.string nm, .int .i64 op, .string val] 92))
 clear kn
 go_enter Tryz.func82, Tryz.ntmps82
 go_wp2_with fail
 refine kn0.mono ?_
 rintro e w1 ⟨rfl, hb1⟩
 obtain ⟨⟨x0, x1, x2⟩, hlt, hB1⟩ := box3m hb1
 have HB := Lib.hid hB1
 clear kn0 hb1 hB1
 cases N with
 | false =>
  go_wp2
  go_ret
  exact ⟨by rw [HF.out]; rfl, HB.out⟩
 | true =>
  by_cases h0 : op < 0
  ·rw [show decide (0 ≤ op) = false from decide_eq_false (by omega)] at HF
   go_wp2
   go_ret
   exact ⟨by rw [HF.out]; rfl, HB.out⟩
  ·rw [show decide (0 ≤ op) = true from decide_eq_true (by omega)] at HF
   by_cases h3 : 3 < op
   ·rw [show decide (op ≤ 3) = false from decide_eq_false (by omega)] at HF
    go_wp2
    go_ret
    exact ⟨by rw [HF.out]; rfl, HB.out⟩
   ·rw [show decide (op ≤ 3) = true from decide_eq_true (by omega)] at HF
    by_cases hs : 200 < val.size
    ·rw [show decide (val.size ≤ 200) = false from decide_eq_false (by omega)] at HF
     go_wp2
     go_ret
     exact ⟨by rw [HF.out]; rfl, HB.out⟩
    ·rw [show decide (val.size ≤ 200) = true from decide_eq_true (by omega)] at HF
     by_cases h2 : op < 2
     ·rw [show decide (op < 2) = true from decide_eq_true h2] at HF
      go_wp2
      go_ret
      exact ⟨by rw [HF.out]; rfl, HB.out⟩
     ·rw [show decide (op < 2) = false from decide_eq_false h2] at HF
      have kr := HR.out w1
      have hde : Hid ((errM val == 0) = decide (errM val = 0)) := Lib.hid (by rw [Bool.eq_iff_iff]; simp)
      generalize errM val = E at *
      go_wp2_with fail
      refine kr.mono ?_
      rintro e w2 ⟨rfl, hb2⟩
      clear kr
      go_wp2
      go_ret
      exact ⟨by show Ending.returned (.bool (decide (op < 2) || E == 0)) = _; rw [HF.out, ← hde.out, decide_eq_false (show ¬ op < 2 by omega)]; rfl, HB.out.trans (hb2.mono HB.out.size)⟩
theorem is_any (a b : ByteArray) (w : World) : Calls Tryz.prog 108 #[.string a, .string b] w fun e w' => e = .returned (.bool (b.toList == a.toList)) ∧ Below w.heap.size w w' := by
 go_enter Tryz.func108, Tryz.ntmps108
 go_wp2
 go_ret
 exact ⟨rfl, Below.refl _ _⟩
end Go.Proofs.YtipnhpfpppblhaaGreat
namespace Go.Proofs.YtipnhpfpppblhaaGreat
open Go.RowKit
theorem idx_findM {α : Type} (p : α → Bool) (x : α) : ∀ (l : List α) (i : Nat),
  (∃ k, ∃ h : k < l.length, Lib.idxByFrom (fun _ y => p y) x l i = ((i + k : Nat) : Int) ∧ l.find? p = some l[k] ∧ l.any p = true) ∨
  (Lib.idxByFrom (fun _ y => p y) x l i = -1 ∧ l.find? p = none ∧ l.any p = false)
 | [], i => .inr ⟨rfl, rfl, rfl⟩
 | y :: r, i => by
  by_cases h : p y = true
  ·exact .inl ⟨0, Nat.succ_pos _, by simp [Lib.idxByFrom, h], by simp [h], by simp [h]⟩
  ·have h' : p y = false := by simpa using h
   rcases idx_findM p x r (i + 1) with ⟨k, hk, h1, h2, h3⟩ | ⟨h1, h2, h3⟩
   ·refine .inl ⟨k + 1, by simpa using hk, ?_, by simp [h', h2], by simp [h', h3]⟩
    simp only [Lib.idxByFrom, h']
    rw [show (if false = true then (i : Int) else Lib.idxByFrom (fun _ y => p y) x r (i + 1)) = Lib.idxByFrom (fun _ y => p y) x r (i + 1) from rfl, h1]
    congr 1; omega
   ·refine .inr ⟨?_, by simp [h', h2], by simp [h', h3]⟩
    simp only [Lib.idxByFrom, h']
    rw [show (if false = true then (i : Int) else Lib.idxByFrom (fun _ y => p y) x r (i + 1)) = Lib.idxByFrom (fun _ y => p y) x r (i + 1) from rfl, h1]
abbrev MtF := { m : Mt // MtFit m }
instance : Inhabited MtF := ⟨⟨⟨⟨#[]⟩, 0, ⟨#[]⟩⟩, by unfold MtFit maxLen; decide⟩⟩
theorem mtF_list : ∀ l : List Mt, MtsFit l → ∃ l' : List MtF, l'.map Subtype.val = l
 | [], _ => ⟨[], rfl⟩
 | m :: l, h => by
  obtain ⟨l', h'⟩ := mtF_list l (fun x hx => h x (List.mem_cons_of_mem _ hx))
  exact ⟨⟨m, h m List.mem_cons_self⟩ :: l', by rw [List.map_cons, h']⟩
theorem mtC_at (l : List Mt) (j : Nat) (h : j < l.length) (i : Nat) (v : Value) (hi : (mtC l[j])[i]? = some v) : (mtCells l)[j * 3 + i]? = some v := by
 obtain ⟨h1, h2, h3⟩ := mtCells_at l j h
 match i, hi with
 | 0, hi => rw [Nat.add_zero, h1]; exact hi
 | 1, hi => rw [h2]; exact hi
 | 2, hi => rw [h3]; exact hi
 | i + 3, hi => simp [mtC] at hi
theorem idxm_empty (a : Option Addr) (c : Nat) (f : Value) (w : World) :
  Calls Tryz.prog 104 #[.slice a 0 c, f] w fun e w' => e = .returned (.int .i64 (-1)) ∧ w' = w := by
 go_enter Tryz.func104, Tryz.ntmps104
 go_wp2
 refine wp_loop_rounds 1 ?_
 rw [rounds_succ]
 go_wp2
 go_ret
 exact ⟨rfl, rfl⟩
theorem idxm_gen (l : List Mt) (hfit : MtsFit l) (p : Mt → Bool) (g : Nat) (lb : Array Value) (eg : ∀ args w, (callFunc g args).run Tryz.prog w = .ok (.enter g args) w) (v : Value) (w : World) (hv : MtsAt w v l) (hl : l.length ≤ 1000000000000)
  (hp : ∀ W m, MtFit m → Below w.heap.size w W → Calls Tryz.prog g (#[mtV m] ++ lb) W fun e w' => e = .returned (.bool (p m)) ∧ Below W.heap.size W w') :
  Calls Tryz.prog 104 #[v, .func (.func g) #[] lb] w fun e w' => ∃ i : Int, e = .returned (.int .i64 i) ∧ decide (0 ≤ i) = l.any p ∧ Below w.heap.size w w' := by
 obtain ⟨a, c, rfl, hc, hr⟩ := RdAt.shape hv
 rcases Nat.eq_zero_or_pos l.length with h0 | h0
 ·have hnil : l = [] := List.length_eq_zero_iff.1 h0
  subst hnil
  refine (idxm_empty _ _ _ _).mono ?_
  rintro e w' ⟨rfl, rfl⟩
  exact ⟨_, rfl, rfl, Below.refl _ _⟩
 ·obtain ⟨gb, o, rfl, hg, hcell⟩ := hr h0
  obtain ⟨l', hl'⟩ : ∃ l' : List MtF, l'.map Subtype.val = l := mtF_list l hfit
  have hlen : l'.length = l.length := by rw [← hl', List.length_map]
  have hpb : PredBelow Tryz.prog g lb (fun x : MtF => .agg (mtC x.1).toArray) (fun x => p x.1) w := fun W x hW => by
   refine Calls.mono (hp W x.1 x.2 hW) ?_
   rintro e w' ⟨rfl, hb⟩
   exact ⟨rfl, hW.trans (hb.mono hW.size)⟩
  have h := AnyQ.slices_IndexFunc (α := MtF) Tryz.laysIdxM 3 Tryz.isAgg92 Tryz.sizeOf92 (fun x => mtC x.1) (fun _ => rfl) (fun x => p x.1) g lb eg gb o l.length c l' w hpb (by omega) (by omega) hg (fun j hj i x hx => by
    have hj' : j < l'.length := by omega
    have he : l[j]'(by omega) = (l'[j]'hj').1 := by
     have : (l'.map Subtype.val)[j]'(by rw [List.length_map]; exact hj') = (l'[j]'hj').1 := List.getElem_map ..
     rw [← this]; congr 1; exact hl'.symm
    have := hcell (j * 3 + i) x (mtC_at l j (by omega) i x (by rw [he]; rw [List.getElem!_eq_getElem?_getD, List.getElem?_eq_getElem hj'] at hx; exact hx))
    rw [show o + j * 3 + i = o + (j * 3 + i) by omega]
    exact this)
  rw [← hlen, List.take_length] at h
  rw [hlen] at h
  refine h.mono ?_
  rintro e w' ⟨rfl, hb⟩
  refine ⟨_, rfl, ?_, hb⟩
  have ha : l.any p = l'.any (fun x => p x.1) := by rw [← hl', List.any_map]; rfl
  rw [ha]
  unfold Lib.idxBy
  rcases idx_findM (fun x : MtF => p x.1) default l' 0 with ⟨k, _, h1, _, h3⟩ | ⟨h1, _, h3⟩
  ·rw [h1, h3]; simp
  ·rw [h1, h3]; decide
set_option maxHeartbeats 800000 in
theorem hasm_gen (l : List Mt) (hfit : MtsFit l) (p : Mt → Bool) (g : Nat) (lb : Array Value) (eg : ∀ args w, (callFunc g args).run Tryz.prog w = .ok (.enter g args) w) (v : Value) (w : World) (hv : MtsAt w v l) (hl : l.length ≤ 1000000000000)
  (hp : ∀ W m, MtFit m → Below w.heap.size w W → Calls Tryz.prog g (#[mtV m] ++ lb) W fun e w' => e = .returned (.bool (p m)) ∧ Below W.heap.size W w') :
  Calls Tryz.prog 84 #[v, .func (.func g) #[] lb] w fun e w' => e = .returned (.bool (l.any p)) ∧ Below w.heap.size w w' := by
 have hk := idxm_gen l hfit p g lb eg v w hv hl hp
 generalize l.any p = R at *
 obtain ⟨a, c, rfl, hc, hr⟩ := RdAt.shape hv
 clear hfit eg hv hp hr
 go_enter Tryz.func84, Tryz.ntmps84
 go_wp2_with fail
 refine hk.mono ?_
 rintro e w1 ⟨i, rfl, hi, hb1⟩
 have HI := Lib.hid hi
 clear hk hi
 go_wp2
 go_ret
 exact ⟨by rw [← HI.out]; rfl, hb1⟩
/-! fields -/
theorem fldC_at' (l : List Fld) (j : Nat) (h : j < l.length) (i : Nat) (v : Value) (hi : ([Value.string l[j].1, Value.string l[j].2])[i]? = some v) : (fldCells l)[j * 2 + i]? = some v := by
 obtain ⟨h1, h2⟩ := fldCells_at l j h
 match i, hi with
 | 0, hi => rw [Nat.add_zero, h1]; exact hi
 | 1, hi => rw [h2]; exact hi
 | i + 2, hi => simp at hi
theorem idxf_empty (a : Option Addr) (c : Nat) (f : Value) (w : World) :
  Calls Tryz.prog 99 #[.slice a 0 c, f] w fun e w' => e = .returned (.int .i64 (-1)) ∧ w' = w := by
 go_enter Tryz.func99, Tryz.ntmps99
 go_wp2
 refine wp_loop_rounds 1 ?_
 rw [rounds_succ]
 go_wp2
 go_ret
 exact ⟨rfl, rfl⟩
theorem idxf_gen (l : List Fld) (p : Fld → Bool) (g : Nat) (lb : Array Value) (eg : ∀ args w, (callFunc g args).run Tryz.prog w = .ok (.enter g args) w) (v : Value) (w : World) (hv : FldsAt w v l) (hl : l.length ≤ 1000000000000)
  (hp : ∀ W (x : Fld), Below w.heap.size w W → Calls Tryz.prog g (#[.agg #[.string x.1, .string x.2]] ++ lb) W fun e w' => e = .returned (.bool (p x)) ∧ Below W.heap.size W w') :
  Calls Tryz.prog 99 #[v, .func (.func g) #[] lb] w fun e w' =>
   e = .returned (.int .i64 (Lib.idxByFrom (fun _ (y : Fld) => p y) default l 0)) ∧ Below w.heap.size w w' := by
 obtain ⟨a, c, rfl, hc, hr⟩ := RdAt.shape hv
 rcases Nat.eq_zero_or_pos l.length with h0 | h0
 ·have hnil : l = [] := List.length_eq_zero_iff.1 h0
  subst hnil
  refine (idxf_empty _ _ _ _).mono ?_
  rintro e w' ⟨rfl, rfl⟩
  exact ⟨rfl, Below.refl _ _⟩
 ·obtain ⟨gb, o, rfl, hg, hcell⟩ := hr h0
  have hpb : PredBelow Tryz.prog g lb (fun x : Fld => .agg [Value.string x.1, Value.string x.2].toArray) p w := fun W x hW => by
   refine Calls.mono (hp W x hW) ?_
   rintro e w' ⟨rfl, hb⟩
   exact ⟨rfl, hW.trans (hb.mono hW.size)⟩
  have h := AnyQ.slices_IndexFunc (α := Fld) Tryz.laysIdxF 2 Tryz.isAgg90 Tryz.sizeOf90 (fun x => [Value.string x.1, Value.string x.2]) (fun _ => rfl) p g lb eg gb o l.length c l w hpb (Nat.le_refl _) (by omega) hg (fun j hj i x hx => by
    have := hcell (j * 2 + i) x (fldC_at' l j hj i x (by rw [List.getElem!_eq_getElem?_getD, List.getElem?_eq_getElem hj] at hx; exact hx))
    rw [show o + j * 2 + i = o + (j * 2 + i) by omega]
    exact this)
  rw [List.take_length] at h
  exact h
theorem valclos (x : Fld) (b : Nat) (n : ByteArray) (w : World) (hn : w.cell? ⟨b, 0, none⟩ = some (.string n)) (hlt : b < w.heap.size) :
  Calls Tryz.prog 112 #[.agg #[.string x.1, .string x.2], .pointer (some ⟨b, 0, none⟩)] w fun e w' => e = .returned (.bool (x.1.toList == n.toList)) ∧ Below w.heap.size w w' := by
 have h1 := keep_cell hn (alloc_below w (.cells #[.string x.1, .string x.2] 90)) hlt
 go_enter Tryz.func112, Tryz.ntmps112
 go_wp2
 go_ret
 exact ⟨rfl, alloc_below _ _⟩
def valueF (l : List Fld) (name : ByteArray) : ByteArray := match l.find? fun f => f.1.toList == name.toList with
 | some f => f.2
 | none => ⟨#[]⟩
set_option maxHeartbeats 1600000 in
set_option maxRecDepth 100000 in
theorem value_any (l : List Fld) (n : ByteArray) (w : World) (v : Value) (hv : FldsAt w v l) (hl : l.length ≤ 1000000000000) :
  Calls Tryz.prog 95 #[v, .string n] w fun e w' => e = .returned (.string (valueF l n)) ∧ Below w.heap.size w w' := by
 have hb0 := alloc_below w (.cells #[.string n] 9)
 have hv0 := FldsAt.later hv hb0
 have hlt0 : w.heap.size < (w.alloc (.cells #[.string n] 9)).heap.size := by rw [World.size_alloc]; omega
 have hn0 : (w.alloc (.cells #[.string n] 9)).cell? ⟨w.heap.size, 0, none⟩ = some (.string n) := by rw [cell_of_row _ _ _ _ _ _ (heap_alloc_new w _)]; rfl
 have kc := idxf_gen l (fun f => f.1.toList == n.toList) 112 #[.pointer (some ⟨w.heap.size, 0, none⟩)] (enters_of Tryz.func112 (by kernel_rfl) rfl) v _ hv0 hl
  (fun W x hW => valclos x w.heap.size n W (keep_cell hn0 hW hlt0) (Nat.lt_of_lt_of_le hlt0 hW.size))
 have HV := Lib.hid hv0
 obtain ⟨a, c, rfl, hc, hr⟩ := RdAt.shape hv
 clear hr hv hv0
 go_enter Tryz.func95, Tryz.ntmps95
 go_wp2_with fail
 refine kc.mono ?_
 rintro e w1 ⟨rfl, hb1⟩
 have B1 := Lib.hid (hb0.trans (hb1.mono (Nat.le_of_lt hlt0)))
 have HV1 := Lib.hid (HV.out.later hb1)
 clear kc hb0 hb1 hn0 hlt0 HV
 rcases idx_findM (fun f : Fld => f.1.toList == n.toList) default l 0 with ⟨k, hk, h1, h2, _⟩ | ⟨h1, h2, _⟩
 ·have HR : Hid (valueF l n = l[k].2) := Lib.hid (by unfold valueF; rw [h2])
  rw [h1, Nat.zero_add]
  obtain ⟨_, _, he, _, hr⟩ := RdAt.shape HV1.out
  obtain ⟨gb, o, hab, hg, hcell⟩ := hr (by omega)
  simp only [Value.slice.injEq] at he
  obtain ⟨rfl, _, rfl⟩ := he
  subst hab
  have hc2 := hcell (k * 2 + 1) _ (fldCells_at l k hk).2
  have hk0 : (0 : Int) ≤ (k : Int) := by omega
  have hk1 : (k : Int) < (l.length : Int) := by omega
  clear h1 h2 hr hcell
  rw [← Nat.add_assoc] at hc2
  go_wp2
  go_ret
  exact ⟨by rw [HR.out]; rfl, B1.out⟩
 ·have HR : Hid (valueF l n = ⟨#[]⟩) := Lib.hid (by unfold valueF; rw [h2])
  rw [h1]
  clear h1 h2
  go_wp2
  go_ret
  exact ⟨by rw [HR.out]; rfl, B1.out⟩
end Go.Proofs.YtipnhpfpppblhaaGreat
/- Slices of strings that are read: what lies in memory, said plainly. -/
namespace Go.Proofs.YtipnhpfpppblhaaGreat
open Go.RowKit
end Go.Proofs.YtipnhpfpppblhaaGreat
/- Policies: their data, in memory and said plainly. -/
namespace Go.Proofs.YtipnhpfpppblhaaGreat
open Go.RowKit
/-! ### rows of elements of k cells -/
def cellsG {α : Type} (f : α → List Value) : List α → List Value
  | [] => []
  | x :: l => f x ++ cellsG f l
section
variable {α : Type} {f : α → List Value} {k : Nat}
theorem cellsG_len (hk : ∀ x, (f x).length = k) (l : List α) : (cellsG f l).length = l.length * k := by
  induction l with
  | nil => simp [cellsG]
  | cons x l ih => simp only [cellsG, List.length_append, hk, ih, List.length_cons]; rw [Nat.succ_mul]; omega
theorem cellsG_at (hk : ∀ x, (f x).length = k) : ∀ (l : List α) (j : Nat) (h : j < l.length) (i : Nat) (v : Value), (f l[j])[i]? = some v → (cellsG f l)[j * k + i]? = some v
  | x :: l, 0, _, i, v, hi => by
    have hlt := (List.getElem?_eq_some_iff.1 hi).1
    simp only [cellsG, Nat.zero_mul, Nat.zero_add]
    rw [List.getElem?_append_left (by simpa using hlt)]
    simpa using hi
  | x :: l, j + 1, h, i, v, hi => by
    simp only [cellsG]
    rw [List.getElem?_append_right (by rw [hk, Nat.succ_mul]; omega), hk]
    rw [show (j + 1) * k + i - k = j * k + i by rw [Nat.succ_mul]; omega]
    exact cellsG_at hk l j (by simpa using h) i v (by simpa using hi)
theorem cellsG_take (hk : ∀ x, (f x).length = k) (l : List α) (i : Nat) : cellsG f (l.take i) = (cellsG f l).take (i * k) := by
  induction l generalizing i with
  | nil => simp [cellsG]
  | cons x l ih =>
    cases i with
    | zero => simp [cellsG]
    | succ i =>
      simp only [List.take_succ_cons, cellsG]
      rw [ih, Nat.succ_mul, show i * k + k = (f x).length + i * k by rw [hk]; omega, List.take_length_add_append]
theorem rdG_take {w : World} {a : Option Addr} {c : Nat} {l : List α} (hk : ∀ x, (f x).length = k) (h : RdAt w (.slice a l.length c) l.length k (cellsG f l)) (i : Nat) : RdAt w (.slice a (min l.length i) c) (l.take i).length k (cellsG f (l.take i)) := by
  have hl : (l.take i).length = min l.length i := by rw [List.length_take, Nat.min_comm]
  rw [hl, cellsG_take hk]
  obtain ⟨h1, h2⟩ := h
  refine ⟨by rw [List.length_take, cellsG_len hk]; rcases Nat.le_total l.length i with h | h
             · rw [Nat.min_eq_left h]; exact Nat.min_eq_right (Nat.mul_le_mul_right k h)
             · rw [Nat.min_eq_right h]; exact Nat.min_eq_left (Nat.mul_le_mul_right k h), ?_⟩
  rcases h2 with ⟨h3, h0⟩ | ⟨ad, c', h3, hc, hr⟩
  · simp only [Value.slice.injEq] at h3
    obtain ⟨rfl, h4, rfl⟩ := h3
    exact .inl ⟨by rw [show min l.length i = 0 by omega], by omega⟩
  · simp only [Value.slice.injEq] at h3
    obtain ⟨rfl, _, rfl⟩ := h3
    refine .inr ⟨ad, c, rfl, by omega, fun h0 => ?_⟩
    obtain ⟨b, o, rfl, hlt, hcell⟩ := hr (by omega)
    refine ⟨b, o, rfl, hlt, fun j x hj => hcell j x ?_⟩
    have hjl := (List.getElem?_eq_some_iff.1 hj).1
    rw [List.length_take] at hjl
    rwa [List.getElem?_take_of_lt (by omega)] at hj
end
/-! ### routes, inhibits, policies: with the values of the slices that lie in them -/
structure PRt where
  rcv : ByteArray
  bys : List ByteArray
  wait : Int
  every : Int
  again : Int
  whn : List Mt
  bv : Value
  wv : Value
structure PIh where
  bys : List ByteArray
  lv : Int
  c : Nat
  frm : List Mt
  whn : List Mt
  bv : Value
  fv : Value
  wv : Value
def rtC (r : PRt) : List Value := [.string r.rcv, r.bv, .int .i64 r.wait, .int .i64 r.every, .int .i64 r.again, r.wv]
def ihC (x : PIh) : List Value := [x.bv, .int .i64 x.lv, .int .u32 x.c, x.fv, x.wv]
theorem rtC_len (r : PRt) : (rtC r).length = 6 := rfl
theorem ihC_len (x : PIh) : (ihC x).length = 5 := rfl
def StrsG (w : World) (v : Value) (ws : List ByteArray) : Prop := RdAt w v ws.length 1 (ws.map Value.string)
def StrsFit (ws : List ByteArray) : Prop := ws.length ≤ maxLen ∧ ∀ x ∈ ws, x.size ≤ maxLen
structure RtIn (w : World) (r : PRt) : Prop where
  b : StrsG w r.bv r.bys
  m : MtsAt w r.wv r.whn
structure IhIn (w : World) (x : PIh) : Prop where
  b : StrsG w x.bv x.bys
  f : MtsAt w x.fv x.frm
  m : MtsAt w x.wv x.whn
structure RtFit (r : PRt) : Prop where
  rcv : r.rcv.size ≤ maxLen
  bys : StrsFit r.bys
  whn : MtsFit r.whn
  len : r.whn.length ≤ maxLen
structure IhFit (x : PIh) : Prop where
  bys : StrsFit x.bys
  c : x.c < 4294967296
  frm : MtsFit x.frm
  whn : MtsFit x.whn
  lf : x.frm.length ≤ maxLen
  lw : x.whn.length ≤ maxLen
def RtsAt (w : World) (v : Value) (l : List PRt) : Prop := RdAt w v l.length 6 (cellsG rtC l) ∧ ∀ r ∈ l, RtIn w r
def IhsAt (w : World) (v : Value) (l : List PIh) : Prop := RdAt w v l.length 5 (cellsG ihC l) ∧ ∀ x ∈ l, IhIn w x
theorem RtIn.later {w w' : World} {r : PRt} (h : RtIn w r) (hb : Below w.heap.size w w') : RtIn w' r := ⟨RdAt.later h.b hb, h.m.later hb⟩
theorem IhIn.later {w w' : World} {x : PIh} (h : IhIn w x) (hb : Below w.heap.size w w') : IhIn w' x := ⟨RdAt.later h.b hb, h.f.later hb, h.m.later hb⟩
theorem RtsAt.later {w w' : World} {v : Value} {l : List PRt} (h : RtsAt w v l) (hb : Below w.heap.size w w') : RtsAt w' v l := ⟨h.1.later hb, fun r hr => (h.2 r hr).later hb⟩
theorem IhsAt.later {w w' : World} {v : Value} {l : List PIh} (h : IhsAt w v l) (hb : Below w.heap.size w w') : IhsAt w' v l := ⟨h.1.later hb, fun r hr => (h.2 r hr).later hb⟩
def NmdWide (l : List Nmd) : Prop := l.length ≤ maxLen ∧ NmdFit l ∧ ∀ x ∈ l, x.1.size ≤ maxLen
structure PD where
  so : List Nmd
  re : List Nmd
  pe : List Nmd
  ra : List Nmd
  ro : List PRt
  ih : List PIh
structure PV where
  v0 : Value
  v1 : Value
  v2 : Value
  v3 : Value
  v4 : Value
  v5 : Value
abbrev PV.v (x : PV) : Value := .agg #[x.v0, x.v1, x.v2, x.v3, x.v4, x.v5]
structure PolAt (w : World) (v : PV) (p : PD) : Prop where
  h0 : NmdsAt w v.v0 p.so
  h1 : NmdsAt w v.v1 p.re
  h2 : NmdsAt w v.v2 p.pe
  h3 : NmdsAt w v.v3 p.ra
  h4 : RtsAt w v.v4 p.ro
  h5 : IhsAt w v.v5 p.ih
structure PolFitD (p : PD) : Prop where
  h0 : NmdWide p.so
  h1 : NmdWide p.re
  h2 : NmdWide p.pe
  h3 : NmdWide p.ra
  l4 : p.ro.length ≤ maxLen
  h4 : ∀ r ∈ p.ro, RtFit r
  l5 : p.ih.length ≤ maxLen
  h5 : ∀ x ∈ p.ih, IhFit x
theorem PolAt.later {w w' : World} {v : PV} {p : PD} (h : PolAt w v p) (hb : Below w.heap.size w w') : PolAt w' v p :=
  ⟨h.h0.later hb, h.h1.later hb, h.h2.later hb, h.h3.later hb, h.h4.later hb, h.h5.later hb⟩
/-! ### which policies may be -/
def namedP (l : List Nmd) : Bool := decide ((l.map (·.1)).Nodup) && l.all (fun x => nameL (B x.1) && rightL x.2.1)
def byP (l : List ByteArray) : Bool := decide l.Nodup && l.all (fun x => nameL (B x)) && decide (l.length ≤ 8)
def plainT (s : ByteArray) : Bool := (B s).all fun c => decide (32 ≤ c.toNat)
def whenP (l : List Mt) : Bool := l.all (fun m => plainT m.val && fineM m) && decide (l.length ≤ 12)
def timesP (r : PRt) : Bool := decide (0 ≤ r.wait) && decide (r.wait ≤ 1000) && decide (1 ≤ r.every) && decide (r.every ≤ 1000) && decide (r.every ≤ r.again) && decide (r.again ≤ 100000)
def badRt (re : List Nmd) (r : PRt) : Bool := !(findL re r.rcv).isSome || !byP r.bys || !timesP r || !whenP r.whn
def badIh (x : PIh) : Bool := !byP x.bys || !rightL x.lv || !whenP x.frm || !whenP x.whn
def longP (p : PD) : Bool := decide (12 < p.so.length) || decide (12 < p.re.length) || decide (12 < p.pe.length) || decide (12 < p.ra.length) || decide (12 < p.ro.length) || decide (12 < p.ih.length)
def namesP (p : PD) : Bool := namedP p.so && namedP p.re && namedP p.pe && namedP p.ra
def checkP (p : PD) : Int := if longP p then 4 else if !namesP p then 1 else if p.ro.any (badRt p.re) then 1 else if p.ih.any badIh then 1 else 0
end Go.Proofs.YtipnhpfpppblhaaGreat
/- slices.IndexFunc, ContainsFunc at strings, lists of names, routes, inhibits, whatever the closure. -/
namespace Go.Proofs.YtipnhpfpppblhaaGreat
open Go.RowKit
def NlsAt (w : World) (v : Value) (l : List (List Nmd × Value)) : Prop := RdAt w v l.length 1 (l.map (·.2))
set_option maxHeartbeats 800000 in
theorem idxS_gen (l : List ByteArray) (p : ByteArray → Bool) (g : Nat) (lb : Array Value) (eg : ∀ args w, (callFunc g args).run Tryz.prog w = .ok (.enter g args) w) (v : Value) (w : World) (hv : StrsG w v l) (hl : l.length ≤ 1000000000000)
  (hp : ∀ W x, x ∈ l → Below w.heap.size w W → Calls Tryz.prog g (#[.string x] ++ lb) W fun e w' => e = .returned (.bool (p x)) ∧ Below W.heap.size W w') :
  Calls Tryz.prog 111 #[v, .func (.func g) #[] lb] w fun e w' => ∃ i : Int, e = .returned (.int .i64 i) ∧ decide (0 ≤ i) = l.any p ∧ Below w.heap.size w w' := by
 obtain ⟨a, c, rfl, hc, hr⟩ := RdAt.shape hv
 have HR := Lib.hid hr
 have HP := Lib.hid hp
 clear hr hv hp
 go_enter Tryz.func111, Tryz.ntmps111
 go_wp2
 go_loopw [8] (fun i wr => ∃ k : Nat, i = .int .i64 k ∧ k ≤ l.length ∧ Hid (∀ j (_ : j < l.length), j < k → p l[j] = false) ∧ Below w.heap.size w wr) (fun i _ => l.length - (intOf i).toNat)
 case atStart => exact ⟨0, rfl, Nat.zero_le _, Lib.hid (fun _ _ h => absurd h (Nat.not_lt_zero _)), Below.refl _ _⟩
 case round =>
  obtain ⟨k, rfl, hk, HT, hbr⟩ := hrel
  by_cases hkl : k < l.length
  ·obtain ⟨b, o, rfl, hb, hcell⟩ := HR.out (by omega)
   have hcall := HP.out wr l[k] (List.getElem_mem hkl) hbr
   have HY : Hid (p l[k] = true → l.any p = true) := Lib.hid (fun h => List.any_eq_true.2 ⟨_, List.getElem_mem hkl, h⟩)
   have q0 : wr.cell? ⟨b, o + k, none⟩ = some (.string l[k]) := keep_cell (hcell k _ (by rw [List.getElem?_map, List.getElem?_eq_getElem hkl]; rfl)) hbr hb
   obtain ⟨x, hx⟩ : ∃ x, l[k] = x := ⟨_, rfl⟩
   have HX := Lib.hid hx
   rw [hx] at hcall HY q0
   clear hx hcell
   cases hq : p x with
   | true =>
    rw [hq] at hcall HY
    go_wp2_with (go_at_fn g; refine hcall.mono ?_; rintro e w' ⟨rfl, hb'⟩)
    go_ret
    exact ⟨_, rfl, by rw [HY.out (by trivial)]; exact decide_eq_true (by omega), hbr.trans (hb'.mono hbr.size)⟩
   | false =>
    have HN : Hid (∀ j (_ : j < l.length), j < k + 1 → p l[j] = false) := Lib.hid (fun j hj h => by
     rcases Nat.lt_or_ge j k with h' | h'
     ·exact HT.out j hj h'
     ·obtain rfl : j = k := by omega
      rw [HX.out]; exact hq)
    rw [hq] at hcall
    clear HY
    go_wp2_with (go_at_fn g; refine hcall.mono ?_; rintro e w' ⟨rfl, hb'⟩)
    have hb2 := hbr.trans (hb'.mono hbr.size)
    go_roundw
    case rel => exact ⟨k + 1, by go_num, by omega, HN, hb2⟩
    case measure => (simp [intOf]; try omega)
  ·obtain rfl : k = l.length := by omega
   have HN : Hid (l.any p = false) := Lib.hid (by
    rw [List.any_eq_false]
    intro y hy
    obtain ⟨i, hi, rfl⟩ := List.mem_iff_getElem.1 hy
    rw [HT.out i hi hi]; decide)
   clear HT
   go_wp2
   go_ret
   exact ⟨_, rfl, by rw [HN.out]; rfl, hbr⟩
theorem hasS_gen (l : List ByteArray) (p : ByteArray → Bool) (g : Nat) (lb : Array Value) (eg : ∀ args w, (callFunc g args).run Tryz.prog w = .ok (.enter g args) w) (v : Value) (w : World) (hv : StrsG w v l) (hl : l.length ≤ 1000000000000)
  (hp : ∀ W x, x ∈ l → Below w.heap.size w W → Calls Tryz.prog g (#[.string x] ++ lb) W fun e w' => e = .returned (.bool (p x)) ∧ Below W.heap.size W w') :
  Calls Tryz.prog 93 #[v, .func (.func g) #[] lb] w fun e w' => e = .returned (.bool (l.any p)) ∧ Below w.heap.size w w' := by
 have hk := idxS_gen l p g lb eg v w hv hl hp
 generalize l.any p = R at *
 obtain ⟨a, c, rfl, _, _⟩ := RdAt.shape hv
 clear eg hv hp
 go_enter Tryz.func93, Tryz.ntmps93
 go_wp2_with fail
 refine hk.mono ?_
 rintro e w1 ⟨i, rfl, hi, hb1⟩
 have HI := Lib.hid hi
 clear hk hi
 go_wp2
 go_ret
 exact ⟨by rw [← HI.out]; rfl, hb1⟩
set_option maxHeartbeats 800000 in
theorem idxL_gen (l : List (List Nmd × Value)) (p : (List Nmd × Value) → Bool) (g : Nat) (lb : Array Value) (eg : ∀ args w, (callFunc g args).run Tryz.prog w = .ok (.enter g args) w) (v : Value) (w : World) (hv : NlsAt w v l) (hl : l.length ≤ 1000000000000)
  (hp : ∀ W x, x ∈ l → Below w.heap.size w W → Calls Tryz.prog g (#[x.2] ++ lb) W fun e w' => e = .returned (.bool (p x)) ∧ Below W.heap.size W w') :
  Calls Tryz.prog 85 #[v, .func (.func g) #[] lb] w fun e w' => ∃ i : Int, e = .returned (.int .i64 i) ∧ decide (0 ≤ i) = l.any p ∧ Below w.heap.size w w' := by
 obtain ⟨a, c, rfl, hc, hr⟩ := RdAt.shape hv
 have HR := Lib.hid hr
 have HP := Lib.hid hp
 clear hr hv hp
 go_enter Tryz.func85, Tryz.ntmps85
 go_wp2
 go_loopw [8] (fun i wr => ∃ k : Nat, i = .int .i64 k ∧ k ≤ l.length ∧ Hid (∀ j (_ : j < l.length), j < k → p l[j] = false) ∧ Below w.heap.size w wr) (fun i _ => l.length - (intOf i).toNat)
 case atStart => exact ⟨0, rfl, Nat.zero_le _, Lib.hid (fun _ _ h => absurd h (Nat.not_lt_zero _)), Below.refl _ _⟩
 case round =>
  obtain ⟨k, rfl, hk, HT, hbr⟩ := hrel
  by_cases hkl : k < l.length
  ·obtain ⟨b, o, rfl, hb, hcell⟩ := HR.out (by omega)
   have hcall := HP.out wr l[k] (List.getElem_mem hkl) hbr
   have HY : Hid (p l[k] = true → l.any p = true) := Lib.hid (fun h => List.any_eq_true.2 ⟨_, List.getElem_mem hkl, h⟩)
   have q0 : wr.cell? ⟨b, o + k, none⟩ = some l[k].2 := keep_cell (hcell k _ (by rw [List.getElem?_map, List.getElem?_eq_getElem hkl]; rfl)) hbr hb
   obtain ⟨x, hx⟩ : ∃ x, l[k] = x := ⟨_, rfl⟩
   have HX := Lib.hid hx
   rw [hx] at hcall HY q0
   clear hx hcell
   cases hq : p x with
   | true =>
    rw [hq] at hcall HY
    go_wp2_with (go_at_fn g; refine hcall.mono ?_; rintro e w' ⟨rfl, hb'⟩)
    go_ret
    exact ⟨_, rfl, by rw [HY.out (by trivial)]; exact decide_eq_true (by omega), hbr.trans (hb'.mono hbr.size)⟩
   | false =>
    have HN : Hid (∀ j (_ : j < l.length), j < k + 1 → p l[j] = false) := Lib.hid (fun j hj h => by
     rcases Nat.lt_or_ge j k with h' | h'
     ·exact HT.out j hj h'
     ·obtain rfl : j = k := by omega
      rw [HX.out]; exact hq)
    rw [hq] at hcall
    clear HY
    go_wp2_with (go_at_fn g; refine hcall.mono ?_; rintro e w' ⟨rfl, hb'⟩)
    have hb2 := hbr.trans (hb'.mono hbr.size)
    go_roundw
    case rel => exact ⟨k + 1, by go_num, by omega, HN, hb2⟩
    case measure => (simp [intOf]; try omega)
  ·obtain rfl : k = l.length := by omega
   have HN : Hid (l.any p = false) := Lib.hid (by
    rw [List.any_eq_false]
    intro y hy
    obtain ⟨i, hi, rfl⟩ := List.mem_iff_getElem.1 hy
    rw [HT.out i hi hi]; decide)
   clear HT
   go_wp2
   go_ret
   exact ⟨_, rfl, by rw [HN.out]; rfl, hbr⟩
theorem hasL_gen (l : List (List Nmd × Value)) (p : (List Nmd × Value) → Bool) (g : Nat) (lb : Array Value) (eg : ∀ args w, (callFunc g args).run Tryz.prog w = .ok (.enter g args) w) (v : Value) (w : World) (hv : NlsAt w v l) (hl : l.length ≤ 1000000000000)
  (hp : ∀ W x, x ∈ l → Below w.heap.size w W → Calls Tryz.prog g (#[x.2] ++ lb) W fun e w' => e = .returned (.bool (p x)) ∧ Below W.heap.size W w') :
  Calls Tryz.prog 57 #[v, .func (.func g) #[] lb] w fun e w' => e = .returned (.bool (l.any p)) ∧ Below w.heap.size w w' := by
 have hk := idxL_gen l p g lb eg v w hv hl hp
 generalize l.any p = R at *
 obtain ⟨a, c, rfl, _, _⟩ := RdAt.shape hv
 clear eg hv hp
 go_enter Tryz.func57, Tryz.ntmps57
 go_wp2_with fail
 refine hk.mono ?_
 rintro e w1 ⟨i, rfl, hi, hb1⟩
 have HI := Lib.hid hi
 clear hk hi
 go_wp2
 go_ret
 exact ⟨by rw [← HI.out]; rfl, hb1⟩
set_option maxHeartbeats 800000 in
theorem idxR_gen (l : List PRt) (p : PRt → Bool) (g : Nat) (lb : Array Value) (eg : ∀ args w, (callFunc g args).run Tryz.prog w = .ok (.enter g args) w) (v : Value) (w : World) (hv : RdAt w v l.length 6 (cellsG rtC l)) (hl : l.length ≤ 1000000000000)
  (hp : ∀ W x, x ∈ l → Below w.heap.size w W → Calls Tryz.prog g (#[.agg #[.string x.rcv, x.bv, .int .i64 x.wait, .int .i64 x.every, .int .i64 x.again, x.wv]] ++ lb) W fun e w' => e = .returned (.bool (p x)) ∧ Below W.heap.size W w') :
  Calls Tryz.prog 86 #[v, .func (.func g) #[] lb] w fun e w' => ∃ i : Int, e = .returned (.int .i64 i) ∧ decide (0 ≤ i) = l.any p ∧ Below w.heap.size w w' := by
 obtain ⟨a, c, rfl, hc, hr⟩ := RdAt.shape hv
 have HR := Lib.hid hr
 have HP := Lib.hid hp
 clear hr hv hp
 go_enter Tryz.func86, Tryz.ntmps86
 go_wp2
 go_loopw [8] (fun i wr => ∃ k : Nat, i = .int .i64 k ∧ k ≤ l.length ∧ Hid (∀ j (_ : j < l.length), j < k → p l[j] = false) ∧ Below w.heap.size w wr) (fun i _ => l.length - (intOf i).toNat)
 case atStart => exact ⟨0, rfl, Nat.zero_le _, Lib.hid (fun _ _ h => absurd h (Nat.not_lt_zero _)), Below.refl _ _⟩
 case round =>
  obtain ⟨k, rfl, hk, HT, hbr⟩ := hrel
  by_cases hkl : k < l.length
  ·obtain ⟨b, o, rfl, hb, hcell⟩ := HR.out (by omega)
   have hcall := HP.out wr l[k] (List.getElem_mem hkl) hbr
   have HY : Hid (p l[k] = true → l.any p = true) := Lib.hid (fun h => List.any_eq_true.2 ⟨_, List.getElem_mem hkl, h⟩)
   have HC := cellsG_at rtC_len l k hkl
   have q : ∀ i v, (rtC l[k])[i]? = some v → wr.cell? ⟨b, o + k * 6 + i, none⟩ = some v := fun i v hi => keep_cell (by have := hcell _ _ (HC i v hi); rwa [← Nat.add_assoc] at this) hbr hb
   have q0 : wr.cell? ⟨b, o + k * 6, none⟩ = some (.string l[k].rcv) := q 0 _ rfl
   have q1 : wr.cell? ⟨b, o + k * 6 + 1, none⟩ = some (l[k].bv) := q 1 _ rfl
   have q2 : wr.cell? ⟨b, o + k * 6 + 2, none⟩ = some (.int .i64 l[k].wait) := q 2 _ rfl
   have q3 : wr.cell? ⟨b, o + k * 6 + 3, none⟩ = some (.int .i64 l[k].every) := q 3 _ rfl
   have q4 : wr.cell? ⟨b, o + k * 6 + 4, none⟩ = some (.int .i64 l[k].again) := q 4 _ rfl
   have q5 : wr.cell? ⟨b, o + k * 6 + 5, none⟩ = some (l[k].wv) := q 5 _ rfl
   clear q HC
   obtain ⟨x, hx⟩ : ∃ x, l[k] = x := ⟨_, rfl⟩
   have HX := Lib.hid hx
   rw [hx] at hcall HY q0 q1 q2 q3 q4 q5
   clear hx hcell
   obtain ⟨x0, hx0⟩ : ∃ z, z = x := ⟨_, rfl⟩
   rw [← hx0] at HX hcall HY
   have HX0 := Lib.hid hx0
   subst hx0
   clear HX0
   cases hq : p x0 with
   | true =>
    rw [hq] at hcall HY
    go_wp2_with (go_at_fn g; refine hcall.mono ?_; rintro e w' ⟨rfl, hb'⟩)
    go_ret
    exact ⟨_, rfl, by rw [HY.out (by trivial)]; exact decide_eq_true (by omega), hbr.trans (hb'.mono hbr.size)⟩
   | false =>
    have HN : Hid (∀ j (_ : j < l.length), j < k + 1 → p l[j] = false) := Lib.hid (fun j hj h => by
     rcases Nat.lt_or_ge j k with h' | h'
     ·exact HT.out j hj h'
     ·obtain rfl : j = k := by omega
      rw [HX.out]; exact hq)
    rw [hq] at hcall
    clear HY
    go_wp2_with (go_at_fn g; refine hcall.mono ?_; rintro e w' ⟨rfl, hb'⟩)
    have hb2 := hbr.trans (hb'.mono hbr.size)
    go_roundw
    case rel => exact ⟨k + 1, by go_num, by omega, HN, hb2⟩
    case measure => (simp [intOf]; try omega)
  ·obtain rfl : k = l.length := by omega
   have HN : Hid (l.any p = false) := Lib.hid (by
    rw [List.any_eq_false]
    intro y hy
    obtain ⟨i, hi, rfl⟩ := List.mem_iff_getElem.1 hy
    rw [HT.out i hi hi]; decide)
   clear HT
   go_wp2
   go_ret
   exact ⟨_, rfl, by rw [HN.out]; rfl, hbr⟩
theorem hasR_gen (l : List PRt) (p : PRt → Bool) (g : Nat) (lb : Array Value) (eg : ∀ args w, (callFunc g args).run Tryz.prog w = .ok (.enter g args) w) (v : Value) (w : World) (hv : RdAt w v l.length 6 (cellsG rtC l)) (hl : l.length ≤ 1000000000000)
  (hp : ∀ W x, x ∈ l → Below w.heap.size w W → Calls Tryz.prog g (#[.agg #[.string x.rcv, x.bv, .int .i64 x.wait, .int .i64 x.every, .int .i64 x.again, x.wv]] ++ lb) W fun e w' => e = .returned (.bool (p x)) ∧ Below W.heap.size W w') :
  Calls Tryz.prog 58 #[v, .func (.func g) #[] lb] w fun e w' => e = .returned (.bool (l.any p)) ∧ Below w.heap.size w w' := by
 have hk := idxR_gen l p g lb eg v w hv hl hp
 generalize l.any p = R at *
 obtain ⟨a, c, rfl, _, _⟩ := RdAt.shape hv
 clear eg hv hp
 go_enter Tryz.func58, Tryz.ntmps58
 go_wp2_with fail
 refine hk.mono ?_
 rintro e w1 ⟨i, rfl, hi, hb1⟩
 have HI := Lib.hid hi
 clear hk hi
 go_wp2
 go_ret
 exact ⟨by rw [← HI.out]; rfl, hb1⟩
set_option maxHeartbeats 800000 in
theorem idxI_gen (l : List PIh) (p : PIh → Bool) (g : Nat) (lb : Array Value) (eg : ∀ args w, (callFunc g args).run Tryz.prog w = .ok (.enter g args) w) (v : Value) (w : World) (hv : RdAt w v l.length 5 (cellsG ihC l)) (hl : l.length ≤ 1000000000000)
  (hp : ∀ W x, x ∈ l → Below w.heap.size w W → Calls Tryz.prog g (#[.agg #[x.bv, .int .i64 x.lv, .int .u32 x.c, x.fv, x.wv]] ++ lb) W fun e w' => e = .returned (.bool (p x)) ∧ Below W.heap.size W w') :
  Calls Tryz.prog 87 #[v, .func (.func g) #[] lb] w fun e w' => ∃ i : Int, e = .returned (.int .i64 i) ∧ decide (0 ≤ i) = l.any p ∧ Below w.heap.size w w' := by
 obtain ⟨a, c, rfl, hc, hr⟩ := RdAt.shape hv
 have HR := Lib.hid hr
 have HP := Lib.hid hp
 clear hr hv hp
 go_enter Tryz.func87, Tryz.ntmps87
 go_wp2
 go_loopw [8] (fun i wr => ∃ k : Nat, i = .int .i64 k ∧ k ≤ l.length ∧ Hid (∀ j (_ : j < l.length), j < k → p l[j] = false) ∧ Below w.heap.size w wr) (fun i _ => l.length - (intOf i).toNat)
 case atStart => exact ⟨0, rfl, Nat.zero_le _, Lib.hid (fun _ _ h => absurd h (Nat.not_lt_zero _)), Below.refl _ _⟩
 case round =>
  obtain ⟨k, rfl, hk, HT, hbr⟩ := hrel
  by_cases hkl : k < l.length
  ·obtain ⟨b, o, rfl, hb, hcell⟩ := HR.out (by omega)
   have hcall := HP.out wr l[k] (List.getElem_mem hkl) hbr
   have HY : Hid (p l[k] = true → l.any p = true) := Lib.hid (fun h => List.any_eq_true.2 ⟨_, List.getElem_mem hkl, h⟩)
   have HC := cellsG_at ihC_len l k hkl
   have q : ∀ i v, (ihC l[k])[i]? = some v → wr.cell? ⟨b, o + k * 5 + i, none⟩ = some v := fun i v hi => keep_cell (by have := hcell _ _ (HC i v hi); rwa [← Nat.add_assoc] at this) hbr hb
   have q0 : wr.cell? ⟨b, o + k * 5, none⟩ = some (l[k].bv) := q 0 _ rfl
   have q1 : wr.cell? ⟨b, o + k * 5 + 1, none⟩ = some (.int .i64 l[k].lv) := q 1 _ rfl
   have q2 : wr.cell? ⟨b, o + k * 5 + 2, none⟩ = some (.int .u32 l[k].c) := q 2 _ rfl
   have q3 : wr.cell? ⟨b, o + k * 5 + 3, none⟩ = some (l[k].fv) := q 3 _ rfl
   have q4 : wr.cell? ⟨b, o + k * 5 + 4, none⟩ = some (l[k].wv) := q 4 _ rfl
   clear q HC
   obtain ⟨x, hx⟩ : ∃ x, l[k] = x := ⟨_, rfl⟩
   have HX := Lib.hid hx
   rw [hx] at hcall HY q0 q1 q2 q3 q4
   clear hx hcell
   obtain ⟨x0, hx0⟩ : ∃ z, z = x := ⟨_, rfl⟩
   rw [← hx0] at HX hcall HY
   have HX0 := Lib.hid hx0
   subst hx0
   clear HX0
   cases hq : p x0 with
   | true =>
    rw [hq] at hcall HY
    go_wp2_with (go_at_fn g; refine hcall.mono ?_; rintro e w' ⟨rfl, hb'⟩)
    go_ret
    exact ⟨_, rfl, by rw [HY.out (by trivial)]; exact decide_eq_true (by omega), hbr.trans (hb'.mono hbr.size)⟩
   | false =>
    have HN : Hid (∀ j (_ : j < l.length), j < k + 1 → p l[j] = false) := Lib.hid (fun j hj h => by
     rcases Nat.lt_or_ge j k with h' | h'
     ·exact HT.out j hj h'
     ·obtain rfl : j = k := by omega
      rw [HX.out]; exact hq)
    rw [hq] at hcall
    clear HY
    go_wp2_with (go_at_fn g; refine hcall.mono ?_; rintro e w' ⟨rfl, hb'⟩)
    have hb2 := hbr.trans (hb'.mono hbr.size)
    go_roundw
    case rel => exact ⟨k + 1, by go_num, by omega, HN, hb2⟩
    case measure => (simp [intOf]; try omega)
  ·obtain rfl : k = l.length := by omega
   have HN : Hid (l.any p = false) := Lib.hid (by
    rw [List.any_eq_false]
    intro y hy
    obtain ⟨i, hi, rfl⟩ := List.mem_iff_getElem.1 hy
    rw [HT.out i hi hi]; decide)
   clear HT
   go_wp2
   go_ret
   exact ⟨_, rfl, by rw [HN.out]; rfl, hbr⟩
theorem hasI_gen (l : List PIh) (p : PIh → Bool) (g : Nat) (lb : Array Value) (eg : ∀ args w, (callFunc g args).run Tryz.prog w = .ok (.enter g args) w) (v : Value) (w : World) (hv : RdAt w v l.length 5 (cellsG ihC l)) (hl : l.length ≤ 1000000000000)
  (hp : ∀ W x, x ∈ l → Below w.heap.size w W → Calls Tryz.prog g (#[.agg #[x.bv, .int .i64 x.lv, .int .u32 x.c, x.fv, x.wv]] ++ lb) W fun e w' => e = .returned (.bool (p x)) ∧ Below W.heap.size W w') :
  Calls Tryz.prog 59 #[v, .func (.func g) #[] lb] w fun e w' => e = .returned (.bool (l.any p)) ∧ Below w.heap.size w w' := by
 have hk := idxI_gen l p g lb eg v w hv hl hp
 generalize l.any p = R at *
 obtain ⟨a, c, rfl, _, _⟩ := RdAt.shape hv
 clear eg hv hp
 go_enter Tryz.func59, Tryz.ntmps59
 go_wp2_with fail
 refine hk.mono ?_
 rintro e w1 ⟨i, rfl, hi, hb1⟩
 have HI := Lib.hid hi
 clear hk hi
 go_wp2
 go_ret
 exact ⟨by rw [← HI.out]; rfl, hb1⟩
end Go.Proofs.YtipnhpfpppblhaaGreat
/- match.Fits: a contract. -/
namespace Go.Proofs.YtipnhpfpppblhaaGreat
open Go.RowKit
noncomputable def fitB (p t : ByteArray) : Bool := @decide (FitsP p t) (Classical.propDecidable _)
theorem fitB_iff {p t : ByteArray} : fitB p t = true ↔ FitsP p t := @decide_eq_true_iff _ (Classical.propDecidable _)
theorem fits_b (p t : ByteArray) (W : World) (ht : t.size ≤ maxLen) : Calls Tryz.prog 110 #[.string p, .string t] W fun e w' => e = .returned (.bool (fitB p t)) ∧ Below W.heap.size W w' := by
 refine (tfits_is p t W ht).mono ?_
 rintro e w' ⟨b, rfl, h1, h2⟩
 have : b = fitB p t := by rw [Bool.eq_iff_iff, fitB_iff]; exact h1
 rw [this]
 exact ⟨rfl, h2⟩
noncomputable def opM (m : Mt) (v : ByteArray) : Bool :=
 if m.op = 0 then v.toList == m.val.toList else if m.op = 1 then !(v.toList == m.val.toList) else if m.op = 2 then fitB m.val v else !(fitB m.val v)
noncomputable def fitM (l : List Fld) (m : Mt) : Bool := fineM m && opM m (valueF l m.nm)
theorem valueF_size {l : List Fld} (hf : FldsFit l) (n : ByteArray) : (valueF l n).size ≤ maxLen := by
 unfold valueF
 split
 ·rename_i f h
  exact (hf f (List.mem_of_find?_eq_some h)).2
 ·exact Nat.zero_le _
theorem not_fn (g : Nat) (w : World) : Calls Tryz.prog 109 #[.func (.func g) #[] #[]] w fun e w' => e = .returned (.func (.func 125) #[] #[.pointer (some ⟨w.heap.size, 0, none⟩)]) ∧ w' = w.alloc (.cells #[.func (.func g) #[] #[]] 118) := by
 go_enter Tryz.func109, Tryz.ntmps109
 go_wp2
 go_ret
 exact ⟨rfl, rfl⟩
theorem not_is (a v : ByteArray) (b : Nat) (w : World) (hc : w.cell? ⟨b, 0, none⟩ = some (.func (.func 108) #[] #[])) : Calls Tryz.prog 125 #[.string a, .string v, .pointer (some ⟨b, 0, none⟩)] w fun e w' => e = .returned (.bool (!(v.toList == a.toList))) ∧ Below w.heap.size w w' := by
 have k := is_any a v w
 go_enter Tryz.func125, Tryz.ntmps125
 go_wp2_with fail
 refine k.mono ?_
 rintro e w1 ⟨rfl, hb⟩
 clear k
 go_wp2
 go_ret
 exact ⟨rfl, hb⟩
theorem not_fits (a v : ByteArray) (b : Nat) (w : World) (hv : v.size ≤ maxLen) (hc : w.cell? ⟨b, 0, none⟩ = some (.func (.func 110) #[] #[])) : Calls Tryz.prog 125 #[.string a, .string v, .pointer (some ⟨b, 0, none⟩)] w fun e w' => e = .returned (.bool (!(fitB a v))) ∧ Below w.heap.size w w' := by
 have k := fits_b a v w hv
 generalize fitB a v = r at *
 go_enter Tryz.func125, Tryz.ntmps125
 go_wp2_with fail
 refine k.mono ?_
 rintro e w1 ⟨rfl, hb⟩
 clear k
 go_wp2
 go_ret
 exact ⟨rfl, hb⟩
structure FitBox (w : World) (nm : ByteArray) (op : Int) (val : ByteArray) (W : World) : Prop where
 b : Below w.heap.size w W
 z : w.heap.size + 2 < W.heap.size
 a0 : W.cell? ⟨w.heap.size, 0, none⟩ = some (.string nm)
 a1 : W.cell? ⟨w.heap.size, 1, none⟩ = some (.int .i64 op)
 a2 : W.cell? ⟨w.heap.size, 2, none⟩ = some (.string val)
 f1 : W.cell? ⟨w.heap.size + 1, 0, none⟩ = some (.func (.func 108) #[] #[])
 f2 : W.cell? ⟨w.heap.size + 2, 0, none⟩ = some (.func (.func 110) #[] #[])
theorem FitBox.later {w : World} {nm : ByteArray} {op : Int} {val : ByteArray} {W W' : World} (h : FitBox w nm op val W) (hb : Below W.heap.size W W') : FitBox w nm op val W' := by
 obtain ⟨b, z, a0, a1, a2, f1, f2⟩ := h
 exact ⟨b.trans (hb.mono b.size), Nat.lt_of_lt_of_le z hb.size, keep_cell a0 hb (by omega), keep_cell a1 hb (by omega), keep_cell a2 hb (by omega), keep_cell f1 hb (by omega), keep_cell f2 hb (by omega)⟩
theorem FitBox.mk3 (w : World) (nm : ByteArray) (op : Int) (val : ByteArray) (t u : TypeId) : FitBox w nm op val (((w.alloc (.cells #[.string nm, .int .i64 op, .string val] t)).alloc (.cells #[.func (.func 108) #[] #[]] u)).alloc (.cells #[.func (.func 110) #[] #[]] u)) := by
 have b1 := alloc_below w (.cells #[.string nm, .int .i64 op, .string val] t)
 have s1 := World.size_alloc w (.cells #[.string nm, .int .i64 op, .string val] t)
 have x1 := heap_alloc_new w (.cells #[.string nm, .int .i64 op, .string val] t)
 generalize w.alloc (.cells #[.string nm, .int .i64 op, .string val] t) = w1 at *
 have b2 := alloc_below w1 (.cells #[.func (.func 108) #[] #[]] u)
 have s2 := World.size_alloc w1 (.cells #[.func (.func 108) #[] #[]] u)
 have x2 := heap_alloc_new w1 (.cells #[.func (.func 108) #[] #[]] u)
 generalize w1.alloc (.cells #[.func (.func 108) #[] #[]] u) = w2 at *
 have b3 := alloc_below w2 (.cells #[.func (.func 110) #[] #[]] u)
 have s3 := World.size_alloc w2 (.cells #[.func (.func 110) #[] #[]] u)
 have x3 := heap_alloc_new w2 (.cells #[.func (.func 110) #[] #[]] u)
 generalize w2.alloc (.cells #[.func (.func 110) #[] #[]] u) = w3 at *
 rw [s1] at x2
 rw [show w2.heap.size = w.heap.size + 2 by omega] at x3
 have k : ∀ i v, w1.cell? ⟨w.heap.size, i, none⟩ = some v → w3.cell? ⟨w.heap.size, i, none⟩ = some v := fun i v h => keep_cell (keep_cell h b2 (by omega)) b3 (by omega)
 refine ⟨(b1.trans (b2.mono (by omega))).trans (b3.mono (by omega)), by omega, k _ _ ?_, k _ _ ?_, k _ _ ?_, keep_cell ?_ b3 (by omega), ?_⟩
 ·rw [cell_of_row _ _ _ _ _ _ x1]; rfl
 ·rw [cell_of_row _ _ _ _ _ _ x1]; rfl
 ·rw [cell_of_row _ _ _ _ _ _ x1]; rfl
 ·rw [cell_of_row _ _ _ _ _ _ x2]; rfl
 ·rw [cell_of_row _ _ _ _ _ _ x3]; rfl
theorem store_row_step {P : Program} {W : World} {g j : Nat} {arr : Array Value} {t : TypeId} {v : Value} (hg : W.heap[g]? = some (.cells arr t (0, 0))) (hj : j < arr.size) (h1 : v.oneCell' = true) :
  ∃ W', (store ⟨g, j, none⟩ v).run P W = .ok () W' ∧ W'.heap[g]? = some (.cells (arr.setIfInBounds j v) t (0, 0)) ∧ Below g W W' := by
 have hc : W.cell? ⟨g, j, none⟩ = some arr[j] := by rw [cell_of_row _ _ _ _ _ _ hg]; exact Array.getElem?_eq_getElem hj
 have hf : W.frozen? ⟨g, j, none⟩ = false := by simp [World.frozen?, hg]
 refine ⟨W.setCell ⟨g, j, none⟩ v, ?_, ?_, ?_⟩
 ·rw [run_store P W _ v _ h1, hc, hf]; rfl
 ·simp [World.setCell, Array.getElem?_modify, hg]
 ·refine ⟨rfl, rfl, rfl, by simp [World.setCell], fun k hk => ?_⟩
  have : g ≠ k := by omega
  simp [World.setCell, Array.getElem?_modify, this]
set_option maxHeartbeats 3200000 in
set_option maxRecDepth 100000 in
theorem fits_any (l : List Fld) (m : Mt) (w : World) (v : Value) (hv : FldsAt w v l) (hl : l.length ≤ 1000000000000) (hfit : FldsFit l) (hf : MtFit m) :
  Calls Tryz.prog 91 #[v, .agg #[.string m.nm, .int .i64 m.op, .string m.val]] w fun e w' => e = .returned (.bool (fitM l m)) ∧ Below w.heap.size w w' := by
 have kn := fun W => not_fn 108 W
 have kp := fun W => not_fn 110 W
 have kf := fun W => mfine_any m W hf
 have kv := fun W (hW : Below w.heap.size w W) => value_any l m.nm W v (hv.later hW) hl
 have hvs := valueF_size hfit m.nm
 have HM : Hid (fitM l m = (fineM m && opM m (valueF l m.nm))) := Lib.hid rfl
 have HO : Hid (∀ u, opM m u = if m.op = 0 then u.toList == m.val.toList else if m.op = 1 then !(u.toList == m.val.toList) else if m.op = 2 then fitB m.val u else !(fitB m.val u)) := Lib.hid (fun _ => rfl)
 have HT : Hid (fineM m = true → 0 ≤ m.op ∧ m.op ≤ 3) := Lib.hid (fun h => ⟨(fineM_true h).2.1, (fineM_true h).2.2.1⟩)
 obtain ⟨fa, fc, rfl, _, _⟩ := RdAt.shape hv
 generalize l.length = fn at *
 generalize valueF l m.nm = u at *
 generalize fitM l m = R at *
 generalize fineM m = N at *
 have HOU := Lib.hid (HO.out u)
 clear HO
 generalize opM m u = OU at *
 obtain ⟨nm, op, val⟩ := m
 dsimp only at *
 have HN := Lib.hid kn
 have HP := Lib.hid kp
 have HFI := Lib.hid kf
 have HV := Lib.hid kv
 clear hv hfit hf kn kp kf kv
 have kn := HN.out (w.alloc (.cells #[.string nm, .int .i64 op, .string val] 92))
 go_enter Tryz.func91, Tryz.ntmps91
 go_wp2_with fail
 refine kn.mono ?_
 rintro e w1 ⟨rfl, hw1⟩
 clear kn
 obtain rfl := hw1.symm
 clear hw1
 have kp := HP.out ((w.alloc (.cells #[.string nm, .int .i64 op, .string val] 92)).alloc (.cells #[.func (.func 108) #[] #[]] 118))
 go_wp2_with fail
 refine kp.mono ?_
 rintro e w2 ⟨rfl, hw2⟩
 clear kp
 have FB : FitBox w nm op val w2 := by rw [hw2]; exact FitBox.mk3 w nm op val _ _
 clear hw2
 have HFB := Lib.hid FB
 clear FB
 rw [World.size_alloc]
 have hx := heap_alloc_new w2 (.cells #[.nilFunc, .nilFunc, .nilFunc, .nilFunc] 154)
 have hba := alloc_below w2 (.cells #[.nilFunc, .nilFunc, .nilFunc, .nilFunc] 154)
 obtain ⟨s1, hs1, hx1, hb1⟩ := store_row_step (P := Tryz.prog) (j := 0) (v := .func (.func 108) #[] #[]) hx (by simp) rfl
 obtain ⟨s2, hs2, hx2, hb2⟩ := store_row_step (P := Tryz.prog) (j := 1) (v := .func (.func 125) #[] #[.pointer (some ⟨w.heap.size + 1, 0, none⟩)]) hx1 (by simp) rfl
 obtain ⟨s3, hs3, hx3, hb3⟩ := store_row_step (P := Tryz.prog) (j := 2) (v := .func (.func 110) #[] #[]) hx2 (by simp) rfl
 obtain ⟨s4, hs4, hx4, hb4⟩ := store_row_step (P := Tryz.prog) (j := 3) (v := .func (.func 125) #[] #[.pointer (some ⟨w.heap.size + 1 + 1, 0, none⟩)]) hx3 (by simp) rfl
 have FB := HFB.out.later ((((hba.trans hb1).trans hb2).trans hb3).trans hb4)
 have hz4 : w2.heap.size < s4.heap.size := (Array.getElem?_eq_some_iff.1 hx4).1
 have D0 : s4.cell? ⟨w2.heap.size, 0, none⟩ = some (.func (.func 108) #[] #[]) := by rw [cell_of_row _ _ _ _ _ _ hx4]; rfl
 have D1 : s4.cell? ⟨w2.heap.size, 1, none⟩ = some (.func (.func 125) #[] #[.pointer (some ⟨w.heap.size + 1, 0, none⟩)]) := by rw [cell_of_row _ _ _ _ _ _ hx4]; rfl
 have D2 : s4.cell? ⟨w2.heap.size, 2, none⟩ = some (.func (.func 110) #[] #[]) := by rw [cell_of_row _ _ _ _ _ _ hx4]; rfl
 have D3 : s4.cell? ⟨w2.heap.size, 3, none⟩ = some (.func (.func 125) #[] #[.pointer (some ⟨w.heap.size + 1 + 1, 0, none⟩)]) := by rw [cell_of_row _ _ _ _ _ _ hx4]; rfl
 clear hx hx1 hx2 hx3 hx4 hba hb1 hb2 hb3 hb4 HFB
 go_upto_region 2 with fail
 obtain ⟨fb, fz, a0, a1, a2, f1, f2⟩ := FB
 have y0 : w.heap.size < s4.heap.size := by omega
 have y1 : w.heap.size + 1 < s4.heap.size := by omega
 have y2 : w.heap.size + 1 + 1 < s4.heap.size := by omega
 have F1 := Lib.hid f1
 have F2 := Lib.hid f2
 have FBB := Lib.hid fb
 clear f1 f2 fb fz hs1 hs2 hs3 hs4
 cases N with
 | false =>
  refine wp_region_held_drew (S := (fun W' => W'.cell? ⟨w.heap.size, 0, none⟩ = some (.string nm) ∧ W'.cell? ⟨w.heap.size, 1, none⟩ = some (.int .i64 op) ∧ W'.cell? ⟨w.heap.size, 2, none⟩ = some (.string val))) (by kernel_rfl) ⟨a0, a1, a2⟩ (fun hHeld => ?_)
  refine hT (i := 0) (v := ?_) rfl rfl hHeld ?_ ?_
  rotate_left
  ·rintro wh ⟨z0, z1, z2⟩
   go_simp
   (try with_reducible rfl)
  simp only [Act.put, List.setIfInBounds_toArray, List.set_cons_zero, List.set_cons_succ]
  refine held_call (i := 1) rfl (by kernel_rfl) (by rfl) (fun K hK => ?_)
  (go_simp; go_at_call 82; refine (HFI.out _).mono ?_; rintro e w5 ⟨rfl, hb5⟩; have hB5 : Below s4.heap.size s4 w5 := ((Below.refl _ _).drew).trans hb5)
  refine hK.out _ _ ⟨keep_cell a0 hB5 y0, keep_cell a1 hB5 y0, keep_cell a2 hB5 y0⟩ (fun hHeld => ?_)
  clear hK K
  (try simp only [Act.put, List.setIfInBounds_toArray, List.set_cons_zero, List.set_cons_succ])
  refine hT (i := 2) (v := ?_) rfl rfl hHeld ?_ ?_
  rotate_left
  ·rintro wh ⟨z0, z1, z2⟩
   go_simp
   (try with_reducible rfl)
  simp only [Act.put, List.setIfInBounds_toArray, List.set_cons_zero, List.set_cons_succ]
  refine held_skip (i := 3) rfl rfl (by kernel_rfl) (by kernel_rfl) (by kernel_rfl) (fun _ _ _ h => h) (by rfl) hHeld ?_
  simp only [Act.put, List.setIfInBounds_toArray, List.set_cons_zero, List.set_cons_succ]
  refine held_skip (i := 4) rfl rfl (by kernel_rfl) (by kernel_rfl) (by kernel_rfl) (fun _ _ _ h => h) (by rfl) hHeld ?_
  simp only [Act.put, List.setIfInBounds_toArray, List.set_cons_zero, List.set_cons_succ]
  refine held_skip (i := 5) rfl rfl (by kernel_rfl) (by kernel_rfl) (by kernel_rfl) (fun _ _ _ h => h) (by rfl) hHeld ?_
  simp only [Act.put, List.setIfInBounds_toArray, List.set_cons_zero, List.set_cons_succ]
  refine held_skip (i := 6) rfl rfl (by kernel_rfl) (by kernel_rfl) (by kernel_rfl) (fun _ _ _ h => h) (by rfl) hHeld ?_
  simp only [Act.put, List.setIfInBounds_toArray, List.set_cons_zero, List.set_cons_succ]
  refine held_skip (i := 7) rfl rfl (by kernel_rfl) (by kernel_rfl) (by kernel_rfl) (fun _ _ _ h => h) (by rfl) hHeld ?_
  simp only [Act.put, List.setIfInBounds_toArray, List.set_cons_zero, List.set_cons_succ]
  refine held_skip (i := 8) rfl rfl (by kernel_rfl) (by kernel_rfl) (by kernel_rfl) (fun _ _ _ h => h) (by rfl) hHeld ?_
  simp only [Act.put, List.setIfInBounds_toArray, List.set_cons_zero, List.set_cons_succ]
  refine held_skip (i := 9) rfl rfl (by kernel_rfl) (by kernel_rfl) (by kernel_rfl) (fun _ _ _ h => h) (by rfl) hHeld ?_
  simp only [Act.put, List.setIfInBounds_toArray, List.set_cons_zero, List.set_cons_succ]
  refine held_skip (i := 10) rfl rfl (by kernel_rfl) (by kernel_rfl) (by kernel_rfl) (fun _ _ _ h => h) (by rfl) hHeld ?_
  simp only [Act.put, List.setIfInBounds_toArray, List.set_cons_zero, List.set_cons_succ]
  refine held_skip (i := 11) rfl rfl (by kernel_rfl) (by kernel_rfl) (by kernel_rfl) (fun _ _ _ h => h) (by rfl) hHeld ?_
  simp only [Act.put, List.setIfInBounds_toArray, List.set_cons_zero, List.set_cons_succ]
  refine held_skip (i := 12) rfl rfl (by kernel_rfl) (by kernel_rfl) (by kernel_rfl) (fun _ _ _ h => h) (by rfl) hHeld ?_
  simp only [Act.put, List.setIfInBounds_toArray, List.set_cons_zero, List.set_cons_succ]
  refine held_skip (i := 13) rfl rfl (by kernel_rfl) (by kernel_rfl) (by kernel_rfl) (fun _ _ _ h => h) (by rfl) hHeld ?_
  simp only [Act.put, List.setIfInBounds_toArray, List.set_cons_zero, List.set_cons_succ]
  refine hT (i := 14) (v := ?_) rfl rfl hHeld ?_ ?_
  rotate_left
  ·rintro wh ⟨z0, z1, z2⟩
   go_simp
   (try with_reducible rfl)
  simp only [Act.put, List.setIfInBounds_toArray, List.set_cons_zero, List.set_cons_succ]
  refine hT (i := 15) (v := ?_) rfl rfl hHeld ?_ ?_
  rotate_left
  ·rintro wh ⟨z0, z1, z2⟩
   go_simp
   (try with_reducible rfl)
  simp only [Act.put, List.setIfInBounds_toArray, List.set_cons_zero, List.set_cons_succ]
  refine wpAnyH_done (by kernel_rfl) ?_ _
  have HB := Lib.hid (FBB.out.trans (hB5.mono FBB.out.size))
  go_wp2
  go_ret
  exact ⟨by rw [HM.out]; rfl, HB.out⟩
 | true =>
  have ht := HT.out rfl
  rcases (show op = 0 ∨ op = 1 ∨ op = 2 ∨ op = 3 by omega) with rfl | rfl | rfl | rfl
  ·clear ht
   rw [if_pos rfl] at HOU
   refine wp_region_held_drew (S := (fun W' => W'.cell? ⟨w.heap.size, 0, none⟩ = some (.string nm) ∧ W'.cell? ⟨w.heap.size, 1, none⟩ = some (.int .i64 0) ∧ W'.cell? ⟨w.heap.size, 2, none⟩ = some (.string val) ∧ W'.cell? ⟨w2.heap.size, 0, none⟩ = some (.func (.func 108) #[] #[]))) (by kernel_rfl) ⟨a0, a1, a2, D0⟩ (fun hHeld => ?_)
   refine hT (i := 0) (v := ?_) rfl rfl hHeld ?_ ?_
   rotate_left
   ·rintro wh ⟨z0, z1, z2, z3⟩
    go_simp
    (try with_reducible rfl)
   simp only [Act.put, List.setIfInBounds_toArray, List.set_cons_zero, List.set_cons_succ]
   refine held_call (i := 1) rfl (by kernel_rfl) (by rfl) (fun K hK => ?_)
   (go_simp; go_at_call 82; refine (HFI.out _).mono ?_; rintro e w5 ⟨rfl, hb5⟩; have hB5 : Below s4.heap.size s4 w5 := ((Below.refl _ _).drew).trans hb5)
   refine hK.out _ _ ⟨keep_cell a0 hB5 y0, keep_cell a1 hB5 y0, keep_cell a2 hB5 y0, keep_cell D0 hB5 hz4⟩ (fun hHeld => ?_)
   clear hK K
   (try simp only [Act.put, List.setIfInBounds_toArray, List.set_cons_zero, List.set_cons_succ])
   refine hT (i := 2) (v := ?_) rfl rfl hHeld ?_ ?_
   rotate_left
   ·rintro wh ⟨z0, z1, z2, z3⟩
    go_simp
    (try with_reducible rfl)
   simp only [Act.put, List.setIfInBounds_toArray, List.set_cons_zero, List.set_cons_succ]
   refine hT (i := 3) (v := ?_) rfl rfl hHeld ?_ ?_
   rotate_left
   ·rintro wh ⟨z0, z1, z2, z3⟩
    go_simp
    (try with_reducible rfl)
   simp only [Act.put, List.setIfInBounds_toArray, List.set_cons_zero, List.set_cons_succ]
   refine hT (i := 4) (v := ?_) rfl rfl hHeld ?_ ?_
   rotate_left
   ·rintro wh ⟨z0, z1, z2, z3⟩
    go_simp
    (try with_reducible rfl)
   simp only [Act.put, List.setIfInBounds_toArray, List.set_cons_zero, List.set_cons_succ]
   refine hT (i := 5) (v := ?_) rfl rfl hHeld ?_ ?_
   rotate_left
   ·rintro wh ⟨z0, z1, z2, z3⟩
    go_simp
    (try with_reducible rfl)
   simp only [Act.put, List.setIfInBounds_toArray, List.set_cons_zero, List.set_cons_succ]
   refine hT (i := 6) (v := ?_) rfl rfl hHeld ?_ ?_
   rotate_left
   ·rintro wh ⟨z0, z1, z2, z3⟩
    go_simp
    (try with_reducible rfl)
   simp only [Act.put, List.setIfInBounds_toArray, List.set_cons_zero, List.set_cons_succ]
   refine hT (i := 7) (v := ?_) rfl rfl hHeld ?_ ?_
   rotate_left
   ·rintro wh ⟨z0, z1, z2, z3⟩
    go_simp
    (try with_reducible rfl)
   simp only [Act.put, List.setIfInBounds_toArray, List.set_cons_zero, List.set_cons_succ]
   refine hT (i := 8) (v := ?_) rfl rfl hHeld ?_ ?_
   rotate_left
   ·rintro wh ⟨z0, z1, z2, z3⟩
    go_simp
    (try with_reducible rfl)
   simp only [Act.put, List.setIfInBounds_toArray, List.set_cons_zero, List.set_cons_succ]
   refine hT (i := 9) (v := ?_) rfl rfl hHeld ?_ ?_
   rotate_left
   ·rintro wh ⟨z0, z1, z2, z3⟩
    go_simp
    (try with_reducible rfl)
   simp only [Act.put, List.setIfInBounds_toArray, List.set_cons_zero, List.set_cons_succ]
   refine hT (i := 10) (v := ?_) rfl rfl hHeld ?_ ?_
   rotate_left
   ·rintro wh ⟨z0, z1, z2, z3⟩
    go_simp
    (try with_reducible rfl)
   simp only [Act.put, List.setIfInBounds_toArray, List.set_cons_zero, List.set_cons_succ]
   refine hT (i := 11) (v := ?_) rfl rfl hHeld ?_ ?_
   rotate_left
   ·rintro wh ⟨z0, z1, z2, z3⟩
    go_simp
    (try with_reducible rfl)
   simp only [Act.put, List.setIfInBounds_toArray, List.set_cons_zero, List.set_cons_succ]
   refine held_call (i := 12) rfl (by kernel_rfl) (by rfl) (fun K hK => ?_)
   (go_simp; go_at_call 95; refine (HV.out _ (FBB.out.trans (hB5.mono FBB.out.size))).mono ?_; rintro e w6 ⟨rfl, hb6⟩; have hB6 : Below s4.heap.size s4 w6 := hB5.trans (hb6.mono hB5.size))
   refine hK.out _ _ ⟨keep_cell a0 hB6 y0, keep_cell a1 hB6 y0, keep_cell a2 hB6 y0, keep_cell D0 hB6 hz4⟩ (fun hHeld => ?_)
   clear hK K
   (try simp only [Act.put, List.setIfInBounds_toArray, List.set_cons_zero, List.set_cons_succ])
   refine held_call (i := 13) rfl (by kernel_rfl) (by rfl) (fun K hK => ?_)
   (go_simp; go_at_call 108; refine (is_any _ _ _).mono ?_; rintro e w7 ⟨rfl, hb7⟩; have hB7 : Below s4.heap.size s4 w7 := hB6.trans (hb7.mono hB6.size))
   refine hK.out _ _ ⟨keep_cell a0 hB7 y0, keep_cell a1 hB7 y0, keep_cell a2 hB7 y0, keep_cell D0 hB7 hz4⟩ (fun hHeld => ?_)
   clear hK K
   (try simp only [Act.put, List.setIfInBounds_toArray, List.set_cons_zero, List.set_cons_succ])
   refine hT (i := 14) (v := ?_) rfl rfl hHeld ?_ ?_
   rotate_left
   ·rintro wh ⟨z0, z1, z2, z3⟩
    go_simp
    (try with_reducible rfl)
   simp only [Act.put, List.setIfInBounds_toArray, List.set_cons_zero, List.set_cons_succ]
   refine hT (i := 15) (v := ?_) rfl rfl hHeld ?_ ?_
   rotate_left
   ·rintro wh ⟨z0, z1, z2, z3⟩
    go_simp
    (try with_reducible rfl)
   simp only [Act.put, List.setIfInBounds_toArray, List.set_cons_zero, List.set_cons_succ]
   refine wpAnyH_done (by kernel_rfl) ?_ _
   have HB := Lib.hid (FBB.out.trans (hB7.mono FBB.out.size))
   go_wp2
   go_ret
   exact ⟨by rw [HM.out, HOU.out]; rfl, HB.out⟩
  ·clear ht
   rw [if_neg (by decide), if_pos rfl] at HOU
   refine wp_region_held_drew (S := (fun W' => W'.cell? ⟨w.heap.size, 0, none⟩ = some (.string nm) ∧ W'.cell? ⟨w.heap.size, 1, none⟩ = some (.int .i64 1) ∧ W'.cell? ⟨w.heap.size, 2, none⟩ = some (.string val) ∧ W'.cell? ⟨w2.heap.size, 1, none⟩ = some (.func (.func 125) #[] #[.pointer (some ⟨w.heap.size + 1, 0, none⟩)]))) (by kernel_rfl) ⟨a0, a1, a2, D1⟩ (fun hHeld => ?_)
   refine hT (i := 0) (v := ?_) rfl rfl hHeld ?_ ?_
   rotate_left
   ·rintro wh ⟨z0, z1, z2, z3⟩
    go_simp
    (try with_reducible rfl)
   simp only [Act.put, List.setIfInBounds_toArray, List.set_cons_zero, List.set_cons_succ]
   refine held_call (i := 1) rfl (by kernel_rfl) (by rfl) (fun K hK => ?_)
   (go_simp; go_at_call 82; refine (HFI.out _).mono ?_; rintro e w5 ⟨rfl, hb5⟩; have hB5 : Below s4.heap.size s4 w5 := ((Below.refl _ _).drew).trans hb5)
   refine hK.out _ _ ⟨keep_cell a0 hB5 y0, keep_cell a1 hB5 y0, keep_cell a2 hB5 y0, keep_cell D1 hB5 hz4⟩ (fun hHeld => ?_)
   clear hK K
   (try simp only [Act.put, List.setIfInBounds_toArray, List.set_cons_zero, List.set_cons_succ])
   refine hT (i := 2) (v := ?_) rfl rfl hHeld ?_ ?_
   rotate_left
   ·rintro wh ⟨z0, z1, z2, z3⟩
    go_simp
    (try with_reducible rfl)
   simp only [Act.put, List.setIfInBounds_toArray, List.set_cons_zero, List.set_cons_succ]
   refine hT (i := 3) (v := ?_) rfl rfl hHeld ?_ ?_
   rotate_left
   ·rintro wh ⟨z0, z1, z2, z3⟩
    go_simp
    (try with_reducible rfl)
   simp only [Act.put, List.setIfInBounds_toArray, List.set_cons_zero, List.set_cons_succ]
   refine hT (i := 4) (v := ?_) rfl rfl hHeld ?_ ?_
   rotate_left
   ·rintro wh ⟨z0, z1, z2, z3⟩
    go_simp
    (try with_reducible rfl)
   simp only [Act.put, List.setIfInBounds_toArray, List.set_cons_zero, List.set_cons_succ]
   refine hT (i := 5) (v := ?_) rfl rfl hHeld ?_ ?_
   rotate_left
   ·rintro wh ⟨z0, z1, z2, z3⟩
    go_simp
    (try with_reducible rfl)
   simp only [Act.put, List.setIfInBounds_toArray, List.set_cons_zero, List.set_cons_succ]
   refine hT (i := 6) (v := ?_) rfl rfl hHeld ?_ ?_
   rotate_left
   ·rintro wh ⟨z0, z1, z2, z3⟩
    go_simp
    (try with_reducible rfl)
   simp only [Act.put, List.setIfInBounds_toArray, List.set_cons_zero, List.set_cons_succ]
   refine hT (i := 7) (v := ?_) rfl rfl hHeld ?_ ?_
   rotate_left
   ·rintro wh ⟨z0, z1, z2, z3⟩
    go_simp
    (try with_reducible rfl)
   simp only [Act.put, List.setIfInBounds_toArray, List.set_cons_zero, List.set_cons_succ]
   refine hT (i := 8) (v := ?_) rfl rfl hHeld ?_ ?_
   rotate_left
   ·rintro wh ⟨z0, z1, z2, z3⟩
    go_simp
    (try with_reducible rfl)
   simp only [Act.put, List.setIfInBounds_toArray, List.set_cons_zero, List.set_cons_succ]
   refine hT (i := 9) (v := ?_) rfl rfl hHeld ?_ ?_
   rotate_left
   ·rintro wh ⟨z0, z1, z2, z3⟩
    go_simp
    (try with_reducible rfl)
   simp only [Act.put, List.setIfInBounds_toArray, List.set_cons_zero, List.set_cons_succ]
   refine hT (i := 10) (v := ?_) rfl rfl hHeld ?_ ?_
   rotate_left
   ·rintro wh ⟨z0, z1, z2, z3⟩
    go_simp
    (try with_reducible rfl)
   simp only [Act.put, List.setIfInBounds_toArray, List.set_cons_zero, List.set_cons_succ]
   refine hT (i := 11) (v := ?_) rfl rfl hHeld ?_ ?_
   rotate_left
   ·rintro wh ⟨z0, z1, z2, z3⟩
    go_simp
    (try with_reducible rfl)
   simp only [Act.put, List.setIfInBounds_toArray, List.set_cons_zero, List.set_cons_succ]
   refine held_call (i := 12) rfl (by kernel_rfl) (by rfl) (fun K hK => ?_)
   (go_simp; go_at_call 95; refine (HV.out _ (FBB.out.trans (hB5.mono FBB.out.size))).mono ?_; rintro e w6 ⟨rfl, hb6⟩; have hB6 : Below s4.heap.size s4 w6 := hB5.trans (hb6.mono hB5.size))
   refine hK.out _ _ ⟨keep_cell a0 hB6 y0, keep_cell a1 hB6 y0, keep_cell a2 hB6 y0, keep_cell D1 hB6 hz4⟩ (fun hHeld => ?_)
   clear hK K
   (try simp only [Act.put, List.setIfInBounds_toArray, List.set_cons_zero, List.set_cons_succ])
   refine held_call (i := 13) rfl (by kernel_rfl) (by rfl) (fun K hK => ?_)
   (go_simp; go_at_call 125; refine (not_is _ _ _ _ (keep_cell F1.out hB6 y1)).mono ?_; rintro e w7 ⟨rfl, hb7⟩; have hB7 : Below s4.heap.size s4 w7 := hB6.trans (hb7.mono hB6.size))
   refine hK.out _ _ ⟨keep_cell a0 hB7 y0, keep_cell a1 hB7 y0, keep_cell a2 hB7 y0, keep_cell D1 hB7 hz4⟩ (fun hHeld => ?_)
   clear hK K
   (try simp only [Act.put, List.setIfInBounds_toArray, List.set_cons_zero, List.set_cons_succ])
   refine hT (i := 14) (v := ?_) rfl rfl hHeld ?_ ?_
   rotate_left
   ·rintro wh ⟨z0, z1, z2, z3⟩
    go_simp
    (try with_reducible rfl)
   simp only [Act.put, List.setIfInBounds_toArray, List.set_cons_zero, List.set_cons_succ]
   refine hT (i := 15) (v := ?_) rfl rfl hHeld ?_ ?_
   rotate_left
   ·rintro wh ⟨z0, z1, z2, z3⟩
    go_simp
    (try with_reducible rfl)
   simp only [Act.put, List.setIfInBounds_toArray, List.set_cons_zero, List.set_cons_succ]
   refine wpAnyH_done (by kernel_rfl) ?_ _
   have HB := Lib.hid (FBB.out.trans (hB7.mono FBB.out.size))
   go_wp2
   go_ret
   exact ⟨by rw [HM.out, HOU.out]; rfl, HB.out⟩
  ·clear ht
   rw [if_neg (by decide), if_neg (by decide), if_pos rfl] at HOU
   refine wp_region_held_drew (S := (fun W' => W'.cell? ⟨w.heap.size, 0, none⟩ = some (.string nm) ∧ W'.cell? ⟨w.heap.size, 1, none⟩ = some (.int .i64 2) ∧ W'.cell? ⟨w.heap.size, 2, none⟩ = some (.string val) ∧ W'.cell? ⟨w2.heap.size, 2, none⟩ = some (.func (.func 110) #[] #[]))) (by kernel_rfl) ⟨a0, a1, a2, D2⟩ (fun hHeld => ?_)
   refine hT (i := 0) (v := ?_) rfl rfl hHeld ?_ ?_
   rotate_left
   ·rintro wh ⟨z0, z1, z2, z3⟩
    go_simp
    (try with_reducible rfl)
   simp only [Act.put, List.setIfInBounds_toArray, List.set_cons_zero, List.set_cons_succ]
   refine held_call (i := 1) rfl (by kernel_rfl) (by rfl) (fun K hK => ?_)
   (go_simp; go_at_call 82; refine (HFI.out _).mono ?_; rintro e w5 ⟨rfl, hb5⟩; have hB5 : Below s4.heap.size s4 w5 := ((Below.refl _ _).drew).trans hb5)
   refine hK.out _ _ ⟨keep_cell a0 hB5 y0, keep_cell a1 hB5 y0, keep_cell a2 hB5 y0, keep_cell D2 hB5 hz4⟩ (fun hHeld => ?_)
   clear hK K
   (try simp only [Act.put, List.setIfInBounds_toArray, List.set_cons_zero, List.set_cons_succ])
   refine hT (i := 2) (v := ?_) rfl rfl hHeld ?_ ?_
   rotate_left
   ·rintro wh ⟨z0, z1, z2, z3⟩
    go_simp
    (try with_reducible rfl)
   simp only [Act.put, List.setIfInBounds_toArray, List.set_cons_zero, List.set_cons_succ]
   refine hT (i := 3) (v := ?_) rfl rfl hHeld ?_ ?_
   rotate_left
   ·rintro wh ⟨z0, z1, z2, z3⟩
    go_simp
    (try with_reducible rfl)
   simp only [Act.put, List.setIfInBounds_toArray, List.set_cons_zero, List.set_cons_succ]
   refine hT (i := 4) (v := ?_) rfl rfl hHeld ?_ ?_
   rotate_left
   ·rintro wh ⟨z0, z1, z2, z3⟩
    go_simp
    (try with_reducible rfl)
   simp only [Act.put, List.setIfInBounds_toArray, List.set_cons_zero, List.set_cons_succ]
   refine hT (i := 5) (v := ?_) rfl rfl hHeld ?_ ?_
   rotate_left
   ·rintro wh ⟨z0, z1, z2, z3⟩
    go_simp
    (try with_reducible rfl)
   simp only [Act.put, List.setIfInBounds_toArray, List.set_cons_zero, List.set_cons_succ]
   refine hT (i := 6) (v := ?_) rfl rfl hHeld ?_ ?_
   rotate_left
   ·rintro wh ⟨z0, z1, z2, z3⟩
    go_simp
    (try with_reducible rfl)
   simp only [Act.put, List.setIfInBounds_toArray, List.set_cons_zero, List.set_cons_succ]
   refine hT (i := 7) (v := ?_) rfl rfl hHeld ?_ ?_
   rotate_left
   ·rintro wh ⟨z0, z1, z2, z3⟩
    go_simp
    (try with_reducible rfl)
   simp only [Act.put, List.setIfInBounds_toArray, List.set_cons_zero, List.set_cons_succ]
   refine hT (i := 8) (v := ?_) rfl rfl hHeld ?_ ?_
   rotate_left
   ·rintro wh ⟨z0, z1, z2, z3⟩
    go_simp
    (try with_reducible rfl)
   simp only [Act.put, List.setIfInBounds_toArray, List.set_cons_zero, List.set_cons_succ]
   refine hT (i := 9) (v := ?_) rfl rfl hHeld ?_ ?_
   rotate_left
   ·rintro wh ⟨z0, z1, z2, z3⟩
    go_simp
    (try with_reducible rfl)
   simp only [Act.put, List.setIfInBounds_toArray, List.set_cons_zero, List.set_cons_succ]
   refine hT (i := 10) (v := ?_) rfl rfl hHeld ?_ ?_
   rotate_left
   ·rintro wh ⟨z0, z1, z2, z3⟩
    go_simp
    (try with_reducible rfl)
   simp only [Act.put, List.setIfInBounds_toArray, List.set_cons_zero, List.set_cons_succ]
   refine hT (i := 11) (v := ?_) rfl rfl hHeld ?_ ?_
   rotate_left
   ·rintro wh ⟨z0, z1, z2, z3⟩
    go_simp
    (try with_reducible rfl)
   simp only [Act.put, List.setIfInBounds_toArray, List.set_cons_zero, List.set_cons_succ]
   refine held_call (i := 12) rfl (by kernel_rfl) (by rfl) (fun K hK => ?_)
   (go_simp; go_at_call 95; refine (HV.out _ (FBB.out.trans (hB5.mono FBB.out.size))).mono ?_; rintro e w6 ⟨rfl, hb6⟩; have hB6 : Below s4.heap.size s4 w6 := hB5.trans (hb6.mono hB5.size))
   refine hK.out _ _ ⟨keep_cell a0 hB6 y0, keep_cell a1 hB6 y0, keep_cell a2 hB6 y0, keep_cell D2 hB6 hz4⟩ (fun hHeld => ?_)
   clear hK K
   (try simp only [Act.put, List.setIfInBounds_toArray, List.set_cons_zero, List.set_cons_succ])
   refine held_call (i := 13) rfl (by kernel_rfl) (by rfl) (fun K hK => ?_)
   (go_simp; go_at_call 110; refine (fits_b _ _ _ hvs).mono ?_; rintro e w7 ⟨rfl, hb7⟩; have hB7 : Below s4.heap.size s4 w7 := hB6.trans (hb7.mono hB6.size))
   refine hK.out _ _ ⟨keep_cell a0 hB7 y0, keep_cell a1 hB7 y0, keep_cell a2 hB7 y0, keep_cell D2 hB7 hz4⟩ (fun hHeld => ?_)
   clear hK K
   (try simp only [Act.put, List.setIfInBounds_toArray, List.set_cons_zero, List.set_cons_succ])
   refine hT (i := 14) (v := ?_) rfl rfl hHeld ?_ ?_
   rotate_left
   ·rintro wh ⟨z0, z1, z2, z3⟩
    go_simp
    (try with_reducible rfl)
   simp only [Act.put, List.setIfInBounds_toArray, List.set_cons_zero, List.set_cons_succ]
   refine hT (i := 15) (v := ?_) rfl rfl hHeld ?_ ?_
   rotate_left
   ·rintro wh ⟨z0, z1, z2, z3⟩
    go_simp
    (try with_reducible rfl)
   simp only [Act.put, List.setIfInBounds_toArray, List.set_cons_zero, List.set_cons_succ]
   refine wpAnyH_done (by kernel_rfl) ?_ _
   have HB := Lib.hid (FBB.out.trans (hB7.mono FBB.out.size))
   go_wp2
   go_ret
   exact ⟨by rw [HM.out, HOU.out]; rfl, HB.out⟩
  ·clear ht
   rw [if_neg (by decide), if_neg (by decide), if_neg (by decide)] at HOU
   refine wp_region_held_drew (S := (fun W' => W'.cell? ⟨w.heap.size, 0, none⟩ = some (.string nm) ∧ W'.cell? ⟨w.heap.size, 1, none⟩ = some (.int .i64 3) ∧ W'.cell? ⟨w.heap.size, 2, none⟩ = some (.string val) ∧ W'.cell? ⟨w2.heap.size, 3, none⟩ = some (.func (.func 125) #[] #[.pointer (some ⟨w.heap.size + 1 + 1, 0, none⟩)]))) (by kernel_rfl) ⟨a0, a1, a2, D3⟩ (fun hHeld => ?_)
   refine hT (i := 0) (v := ?_) rfl rfl hHeld ?_ ?_
   rotate_left
   ·rintro wh ⟨z0, z1, z2, z3⟩
    go_simp
    (try with_reducible rfl)
   simp only [Act.put, List.setIfInBounds_toArray, List.set_cons_zero, List.set_cons_succ]
   refine held_call (i := 1) rfl (by kernel_rfl) (by rfl) (fun K hK => ?_)
   (go_simp; go_at_call 82; refine (HFI.out _).mono ?_; rintro e w5 ⟨rfl, hb5⟩; have hB5 : Below s4.heap.size s4 w5 := ((Below.refl _ _).drew).trans hb5)
   refine hK.out _ _ ⟨keep_cell a0 hB5 y0, keep_cell a1 hB5 y0, keep_cell a2 hB5 y0, keep_cell D3 hB5 hz4⟩ (fun hHeld => ?_)
   clear hK K
   (try simp only [Act.put, List.setIfInBounds_toArray, List.set_cons_zero, List.set_cons_succ])
   refine hT (i := 2) (v := ?_) rfl rfl hHeld ?_ ?_
   rotate_left
   ·rintro wh ⟨z0, z1, z2, z3⟩
    go_simp
    (try with_reducible rfl)
   simp only [Act.put, List.setIfInBounds_toArray, List.set_cons_zero, List.set_cons_succ]
   refine hT (i := 3) (v := ?_) rfl rfl hHeld ?_ ?_
   rotate_left
   ·rintro wh ⟨z0, z1, z2, z3⟩
    go_simp
    (try with_reducible rfl)
   simp only [Act.put, List.setIfInBounds_toArray, List.set_cons_zero, List.set_cons_succ]
   refine hT (i := 4) (v := ?_) rfl rfl hHeld ?_ ?_
   rotate_left
   ·rintro wh ⟨z0, z1, z2, z3⟩
    go_simp
    (try with_reducible rfl)
   simp only [Act.put, List.setIfInBounds_toArray, List.set_cons_zero, List.set_cons_succ]
   refine hT (i := 5) (v := ?_) rfl rfl hHeld ?_ ?_
   rotate_left
   ·rintro wh ⟨z0, z1, z2, z3⟩
    go_simp
    (try with_reducible rfl)
   simp only [Act.put, List.setIfInBounds_toArray, List.set_cons_zero, List.set_cons_succ]
   refine hT (i := 6) (v := ?_) rfl rfl hHeld ?_ ?_
   rotate_left
   ·rintro wh ⟨z0, z1, z2, z3⟩
    go_simp
    (try with_reducible rfl)
   simp only [Act.put, List.setIfInBounds_toArray, List.set_cons_zero, List.set_cons_succ]
   refine hT (i := 7) (v := ?_) rfl rfl hHeld ?_ ?_
   rotate_left
   ·rintro wh ⟨z0, z1, z2, z3⟩
    go_simp
    (try with_reducible rfl)
   simp only [Act.put, List.setIfInBounds_toArray, List.set_cons_zero, List.set_cons_succ]
   refine hT (i := 8) (v := ?_) rfl rfl hHeld ?_ ?_
   rotate_left
   ·rintro wh ⟨z0, z1, z2, z3⟩
    go_simp
    (try with_reducible rfl)
   simp only [Act.put, List.setIfInBounds_toArray, List.set_cons_zero, List.set_cons_succ]
   refine hT (i := 9) (v := ?_) rfl rfl hHeld ?_ ?_
   rotate_left
   ·rintro wh ⟨z0, z1, z2, z3⟩
    go_simp
    (try with_reducible rfl)
   simp only [Act.put, List.setIfInBounds_toArray, List.set_cons_zero, List.set_cons_succ]
   refine hT (i := 10) (v := ?_) rfl rfl hHeld ?_ ?_
   rotate_left
   ·rintro wh ⟨z0, z1, z2, z3⟩
    go_simp
    (try with_reducible rfl)
   simp only [Act.put, List.setIfInBounds_toArray, List.set_cons_zero, List.set_cons_succ]
   refine hT (i := 11) (v := ?_) rfl rfl hHeld ?_ ?_
   rotate_left
   ·rintro wh ⟨z0, z1, z2, z3⟩
    go_simp
    (try with_reducible rfl)
   simp only [Act.put, List.setIfInBounds_toArray, List.set_cons_zero, List.set_cons_succ]
   refine held_call (i := 12) rfl (by kernel_rfl) (by rfl) (fun K hK => ?_)
   (go_simp; go_at_call 95; refine (HV.out _ (FBB.out.trans (hB5.mono FBB.out.size))).mono ?_; rintro e w6 ⟨rfl, hb6⟩; have hB6 : Below s4.heap.size s4 w6 := hB5.trans (hb6.mono hB5.size))
   refine hK.out _ _ ⟨keep_cell a0 hB6 y0, keep_cell a1 hB6 y0, keep_cell a2 hB6 y0, keep_cell D3 hB6 hz4⟩ (fun hHeld => ?_)
   clear hK K
   (try simp only [Act.put, List.setIfInBounds_toArray, List.set_cons_zero, List.set_cons_succ])
   refine held_call (i := 13) rfl (by kernel_rfl) (by rfl) (fun K hK => ?_)
   (go_simp; go_at_call 125; refine (not_fits _ _ _ _ hvs (keep_cell F2.out hB6 y2)).mono ?_; rintro e w7 ⟨rfl, hb7⟩; have hB7 : Below s4.heap.size s4 w7 := hB6.trans (hb7.mono hB6.size))
   refine hK.out _ _ ⟨keep_cell a0 hB7 y0, keep_cell a1 hB7 y0, keep_cell a2 hB7 y0, keep_cell D3 hB7 hz4⟩ (fun hHeld => ?_)
   clear hK K
   (try simp only [Act.put, List.setIfInBounds_toArray, List.set_cons_zero, List.set_cons_succ])
   refine hT (i := 14) (v := ?_) rfl rfl hHeld ?_ ?_
   rotate_left
   ·rintro wh ⟨z0, z1, z2, z3⟩
    go_simp
    (try with_reducible rfl)
   simp only [Act.put, List.setIfInBounds_toArray, List.set_cons_zero, List.set_cons_succ]
   refine hT (i := 15) (v := ?_) rfl rfl hHeld ?_ ?_
   rotate_left
   ·rintro wh ⟨z0, z1, z2, z3⟩
    go_simp
    (try with_reducible rfl)
   simp only [Act.put, List.setIfInBounds_toArray, List.set_cons_zero, List.set_cons_succ]
   refine wpAnyH_done (by kernel_rfl) ?_ _
   have HB := Lib.hid (FBB.out.trans (hB7.mono FBB.out.size))
   go_wp2
   go_ret
   exact ⟨by rw [HM.out, HOU.out]; rfl, HB.out⟩
end Go.Proofs.YtipnhpfpppblhaaGreat
/- match.All: a contract. -/
namespace Go.Proofs.YtipnhpfpppblhaaGreat
open Go.RowKit
noncomputable def allM (l : List Fld) (ms : List Mt) : Bool := ms.all fun m => fitM l m
theorem allM_any (l : List Fld) (ms : List Mt) : (!(ms.any fun m => !(fitM l m))) = allM l ms := by
 unfold allM
 induction ms with
 | nil => rfl
 | cons m ms ih => rw [List.any_cons, List.all_cons, ← ih]; cases fitM l m <;> simp
set_option maxHeartbeats 1600000 in
theorem allclos (l : List Fld) (m : Mt) (b : Nat) (v : Value) (w : World) (hv : FldsAt w v l) (hl : l.length ≤ 1000000000000) (hfit : FldsFit l) (hf : MtFit m) (hc : w.cell? ⟨b, 0, none⟩ = some v) (hlt : b < w.heap.size) :
  Calls Tryz.prog 90 #[.agg #[.string m.nm, .int .i64 m.op, .string m.val], .pointer (some ⟨b, 0, none⟩)] w fun e w' => e = .returned (.bool (!(fitM l m))) ∧ Below w.heap.size w w' := by
 have hb := alloc_below w (.cells #[.string m.nm, .int .i64 m.op, .string m.val] 92)
 have hz := World.size_alloc w (.cells #[.string m.nm, .int .i64 m.op, .string m.val] 92)
 have k := fits_any l m _ v (hv.later hb) hl hfit hf
 have h1 := keep_cell hc hb hlt
 have HB := Lib.hid hb
 obtain ⟨fa, fc, rfl, _, _⟩ := RdAt.shape hv
 generalize fitM l m = R at *
 obtain ⟨nm, op, val⟩ := m
 dsimp only at *
 clear hv hfit hf hc hb hz
 go_enter Tryz.func90, Tryz.ntmps90
 go_wp2_with fail
 refine k.mono ?_
 rintro e w1 ⟨rfl, hb1⟩
 clear k
 go_wp2
 go_ret
 exact ⟨rfl, HB.out.trans (hb1.mono HB.out.size)⟩
set_option maxHeartbeats 1600000 in
theorem all_any (l : List Fld) (ms : List Mt) (v mv : Value) (w : World) (hv : FldsAt w v l) (hl : l.length ≤ 1000000000000) (hfit : FldsFit l) (hm : MtsAt w mv ms) (hml : ms.length ≤ 1000000000000) (hmf : MtsFit ms) :
  Calls Tryz.prog 62 #[v, mv] w fun e w' => e = .returned (.bool (allM l ms)) ∧ Below w.heap.size w w' := by
 obtain ⟨fa, fc, rfl, _, _⟩ := RdAt.shape hv
 obtain ⟨ma, mc, rfl, _, _⟩ := RdAt.shape hm
 have hb := alloc_below w (.cells #[.slice fa l.length fc] 52)
 have hlt : w.heap.size < (w.alloc (.cells #[.slice fa l.length fc] 52)).heap.size := by rw [World.size_alloc]; omega
 have hc : (w.alloc (.cells #[.slice fa l.length fc] 52)).cell? ⟨w.heap.size, 0, none⟩ = some (.slice fa l.length fc) := by rw [cell_of_row _ _ _ _ _ _ (heap_alloc_new w _)]; rfl
 have k := hasm_gen ms hmf (fun m => !(fitM l m)) 90 #[.pointer (some ⟨w.heap.size, 0, none⟩)] (enters_of Tryz.func90 (by kernel_rfl) rfl) _ _ (hm.later hb) hml
  (fun W m hmfit hW => allclos l m w.heap.size _ W ((hv.later hb).later hW) hl hfit hmfit (keep_cell hc hW hlt) (Nat.lt_of_lt_of_le hlt hW.size))
 have HA := Lib.hid (allM_any l ms)
 have HB := Lib.hid hb
 generalize (ms.any fun m => !(fitM l m)) = R at *
 generalize l.length = ln at *
 generalize ms.length = mn at *
 clear hv hm hfit hmf hb hlt hc
 go_enter Tryz.func62, Tryz.ntmps62
 go_wp2_with fail
 refine k.mono ?_
 rintro e w1 ⟨rfl, hb1⟩
 clear k
 go_wp2
 go_ret
 exact ⟨by rw [← HA.out]; rfl, HB.out.trans (hb1.mono HB.out.size)⟩
end Go.Proofs.YtipnhpfpppblhaaGreat
/- inhibit.alike: a contract. -/
namespace Go.Proofs.YtipnhpfpppblhaaGreat
open Go.RowKit
def sameV (la lb : List Fld) (n : ByteArray) : Bool := (valueF la n).toList == (valueF lb n).toList
def alikeM (ns : List ByteArray) (la lb : List Fld) : Bool := ns.all (sameV la lb)
theorem alike_any' (ns : List ByteArray) (la lb : List Fld) : (!(ns.any fun n => !sameV la lb n)) = alikeM ns la lb := by
 unfold alikeM
 induction ns with
 | nil => rfl
 | cons m ms ih => rw [List.any_cons, List.all_cons, ← ih]; cases sameV la lb m <;> simp
set_option maxHeartbeats 1600000 in
theorem alikeclos (la lb : List Fld) (n : ByteArray) (b : Nat) (va vb : Value) (w : World) (ha : FldsAt w va la) (hb : FldsAt w vb lb) (hla : la.length ≤ 1000000000000) (hlb : lb.length ≤ 1000000000000)
  (h0 : w.cell? ⟨b, 0, none⟩ = some va) (h1 : w.cell? ⟨b + 1, 0, none⟩ = some vb) (hlt : b + 1 < w.heap.size) :
  Calls Tryz.prog 94 #[.string n, .pointer (some ⟨b, 0, none⟩), .pointer (some ⟨b + 1, 0, none⟩)] w fun e w' => e = .returned (.bool (!sameV la lb n)) ∧ Below w.heap.size w w' := by
 have KA := Lib.hid (fun W (h : Below w.heap.size w W) => value_any la n W va (ha.later h) hla)
 have KB := Lib.hid (fun W (h : Below w.heap.size w W) => value_any lb n W vb (hb.later h) hlb)
 obtain ⟨aa, ac, rfl, _, _⟩ := RdAt.shape ha
 obtain ⟨ba, bc, rfl, _, _⟩ := RdAt.shape hb
 have HS : Hid (sameV la lb n = ((valueF la n).toList == (valueF lb n).toList)) := Lib.hid rfl
 generalize sameV la lb n = R at *
 generalize valueF la n = X at *
 generalize valueF lb n = Y at *
 have hlt0 : b < w.heap.size := by omega
 clear ha hb hla hlb
 go_enter Tryz.func94, Tryz.ntmps94
 go_upto_region 1 with fail
 refine wp_region_held_drew (S := (fun W => W.cell? ⟨b, 0, none⟩ = some (.slice aa la.length ac) ∧ W.cell? ⟨b + 1, 0, none⟩ = some (.slice ba lb.length bc))) (by kernel_rfl) ⟨h0, h1⟩ (fun hHeld => ?_)
 have hd : Below w.heap.size w w.drew := (Below.refl _ _).drew
 refine hT (i := 0) (v := ?_) rfl rfl hHeld ?_ ?_
 rotate_left
 ·rintro wh ⟨z0, z1⟩
  go_simp
  (try with_reducible rfl)
 simp only [Act.put, List.setIfInBounds_toArray, List.set_cons_zero, List.set_cons_succ]
 refine hT (i := 1) (v := ?_) rfl rfl hHeld ?_ ?_
 rotate_left
 ·rintro wh ⟨z0, z1⟩
  go_simp
  (try with_reducible rfl)
 simp only [Act.put, List.setIfInBounds_toArray, List.set_cons_zero, List.set_cons_succ]
 refine hT (i := 3) (v := ?_) rfl rfl hHeld ?_ ?_
 rotate_left
 ·rintro wh ⟨z0, z1⟩
  go_simp
  (try with_reducible rfl)
 simp only [Act.put, List.setIfInBounds_toArray, List.set_cons_zero, List.set_cons_succ]
 refine hT (i := 4) (v := ?_) rfl rfl hHeld ?_ ?_
 rotate_left
 ·rintro wh ⟨z0, z1⟩
  go_simp
  (try with_reducible rfl)
 simp only [Act.put, List.setIfInBounds_toArray, List.set_cons_zero, List.set_cons_succ]
 refine held_call (i := 2) rfl (by kernel_rfl) (by rfl) (fun K hK => ?_)
 (go_simp; go_at_call 95; refine (KA.out _ hd).mono ?_; rintro e w1 ⟨rfl, hb1⟩; have hB1 := hd.trans (hb1.mono hd.size))
 refine hK.out _ _ ⟨keep_cell h0 hB1 hlt0, keep_cell h1 hB1 hlt⟩ (fun hHeld => ?_)
 clear hK K
 (try simp only [Act.put, List.setIfInBounds_toArray, List.set_cons_zero, List.set_cons_succ])
 refine held_call (i := 5) rfl (by kernel_rfl) (by rfl) (fun K hK => ?_)
 (go_simp; go_at_call 95; refine (KB.out _ hB1).mono ?_; rintro e w2 ⟨rfl, hb2⟩; have hB2 := hB1.trans (hb2.mono hB1.size))
 refine hK.out _ _ ⟨keep_cell h0 hB2 hlt0, keep_cell h1 hB2 hlt⟩ (fun hHeld => ?_)
 clear hK K
 (try simp only [Act.put, List.setIfInBounds_toArray, List.set_cons_zero, List.set_cons_succ])
 refine hT (i := 6) (v := ?_) rfl rfl hHeld ?_ ?_
 rotate_left
 ·rintro wh ⟨z0, z1⟩
  go_simp
  (try with_reducible rfl)
 simp only [Act.put, List.setIfInBounds_toArray, List.set_cons_zero, List.set_cons_succ]
 refine hT (i := 7) (v := ?_) rfl rfl hHeld ?_ ?_
 rotate_left
 ·rintro wh ⟨z0, z1⟩
  go_simp
  (try with_reducible rfl)
 simp only [Act.put, List.setIfInBounds_toArray, List.set_cons_zero, List.set_cons_succ]
 refine wpAnyH_done (by kernel_rfl) ?_ _
 go_wp2
 go_ret
 exact ⟨by rw [HS.out]; rfl, hB2⟩
set_option maxHeartbeats 1600000 in
theorem alike_any (ns : List ByteArray) (la lb : List Fld) (nv va vb : Value) (w : World) (hn : StrsG w nv ns) (ha : FldsAt w va la) (hb : FldsAt w vb lb) (hnl : ns.length ≤ 1000000000000) (hla : la.length ≤ 1000000000000) (hlb : lb.length ≤ 1000000000000) :
  Calls Tryz.prog 64 #[nv, va, vb] w fun e w' => e = .returned (.bool (alikeM ns la lb)) ∧ Below w.heap.size w w' := by
 obtain ⟨na, nc, rfl, _, _⟩ := RdAt.shape hn
 obtain ⟨aa, ac, rfl, _, _⟩ := RdAt.shape ha
 obtain ⟨ba, bc, rfl, _, _⟩ := RdAt.shape hb
 obtain ⟨W1, hW1⟩ : ∃ z, w.alloc (.cells #[.slice aa la.length ac] 52) = z := ⟨_, rfl⟩
 have hb1 : Below w.heap.size w W1 := by rw [← hW1]; exact alloc_below _ _
 have hs1 : W1.heap.size = w.heap.size + 1 := by rw [← hW1, World.size_alloc]
 have hc1 : W1.cell? ⟨w.heap.size, 0, none⟩ = some (.slice aa la.length ac) := by rw [← hW1, cell_of_row _ _ _ _ _ _ (heap_alloc_new w _)]; rfl
 obtain ⟨W2, hW2⟩ : ∃ z, W1.alloc (.cells #[.slice ba lb.length bc] 52) = z := ⟨_, rfl⟩
 have hb2 : Below W1.heap.size W1 W2 := by rw [← hW2]; exact alloc_below _ _
 have hs2 : W2.heap.size = w.heap.size + 1 + 1 := by rw [← hW2, World.size_alloc, hs1]
 have hc2 : W2.cell? ⟨w.heap.size + 1, 0, none⟩ = some (.slice ba lb.length bc) := by rw [← hs1, ← hW2, cell_of_row _ _ _ _ _ _ (heap_alloc_new W1 _)]; rfl
 have hc0 := keep_cell hc1 hb2 (by show w.heap.size < W1.heap.size; omega)
 have hB := hb1.trans (hb2.mono hb1.size)
 have k := hasS_gen ns (fun n => !sameV la lb n) 94 #[.pointer (some ⟨w.heap.size, 0, none⟩), .pointer (some ⟨w.heap.size + 1, 0, none⟩)] (enters_of Tryz.func94 (by kernel_rfl) rfl) _ W2 (RdAt.later hn hB) hnl
  (fun W n hmem hW => alikeclos la lb n w.heap.size _ _ W ((ha.later hB).later hW) ((hb.later hB).later hW) hla hlb (keep_cell hc0 hW (by show w.heap.size < W2.heap.size; omega)) (keep_cell hc2 hW (by show w.heap.size + 1 < W2.heap.size; omega)) (by have := hW.size; omega))
 have HA := Lib.hid (alike_any' ns la lb)
 have HB := Lib.hid hB
 generalize (ns.any fun n => !sameV la lb n) = R at *
 generalize la.length = ln at *
 generalize lb.length = lm at *
 generalize ns.length = mn at *
 subst hW2
 subst hW1
 clear hn ha hb hb1 hb2 hs2 hc1 hc2 hc0 hB
 go_enter Tryz.func64, Tryz.ntmps64
 rw [World.size_alloc] at *
 go_wp2_with fail
 refine k.mono ?_
 rintro e w1 ⟨rfl, hb1⟩
 clear k
 go_wp2
 go_ret
 exact ⟨by rw [← HA.out]; rfl, HB.out.trans (hb1.mono (by have := HB.out.size; rw [World.size_alloc] at this; exact this))⟩
end Go.Proofs.YtipnhpfpppblhaaGreat
/- A drawn region in a round of a range over a function: it goes as anywhere, if no operation of it is a defer statement. No program in sight. -/
namespace Go
variable {P : Program}
theorem rowsIn_of_wide {n : Nat} {row : String} {args : Array Value} {w : World} {R : Value → World → Prop} (h : Rows P row args w R) : RowsIn Fence.wide n P row args w R :=
 fun c cs _ => let ⟨v, w', r, s⟩ := h c cs; ⟨v, w', r, stepsIn_wide.2 s⟩
theorem oper_inRound {l n : Nat} {o : Oper} {a : Act} {w : World} {K : Act → World → Prop} {Q : Exit → Act → World → Prop} (hd : ∀ c, o.op ≠ .defer c) (h : Oper.wp P o a w K Q) :
  Oper.wpIn (Fence.wide.inRound l) n P o a w K Q := by
 refine ⟨fun _ _ => trivial, ?_⟩
 rw [Fence.inRound_round, Oper.semAt_eq (some l) _ _ hd]
 unfold Oper.wp at h
 generalize (execOp a.eval o).run P w = r at *
 cases r with
 | ok x w' =>
  cases x with
  | value v => exact h
  | skip => exact h
  | defer d => exact h
  | enter f args => exact ⟨fun e => (by cases e), callsIn_wide.2 h⟩
  | row row args => exact ⟨fun e => (by cases e), rowsIn_of_wide h⟩
  | _ => exact h.elim
 | halt x w' => cases x <;> exact h
theorem ops_inRound {l n : Nat} {ops : Array Oper} {Q : Exit → Act → World → Prop} (hd : ∀ (i : Nat) (o : Oper), ops[i]? = some o → ∀ c, o.op ≠ .defer c) (hQ : ¬ LetsOut Q) :
  ∀ (rs : List Nat) (a : Act) (w : World), wpOps P ops Q rs a w → wpOpsIn (Fence.wide.inRound l) n P ops Q rs a w := by
 intro rs
 induction rs with
 | nil => intro a w h; exact h
 | cons i rs ih =>
  intro a w h
  unfold wpOps at h
  unfold wpOpsIn
  cases ho : ops[i]? with
  | none => rw [ho] at h; exact ih _ _ h
  | some o =>
   rw [ho] at h
   dsimp only at h ⊢
   by_cases hw : Region.wanted o (yielded ops a.tmps) = true
   ·rw [if_pos hw] at h ⊢
    exact Oper.wpIn_mono (fun a w h => ih a w h) (oper_inRound (hd i o ho) (h.resolve_right fun e => hQ e.2))
   ·rw [if_neg hw] at h ⊢
    exact ⟨fun _ _ => trivial, ih _ _ h⟩
def noDefer (ops : Array Oper) : Bool := ops.toList.all fun o => match o.op with
 | .defer _ => false
 | _ => true
theorem noDefer_at {ops : Array Oper} (h : noDefer ops = true) (i : Nat) (o : Oper) (ho : ops[i]? = some o) (c : _) : o.op ≠ .defer c := by
 unfold noDefer at h
 rw [List.all_eq_true] at h
 have hm : o ∈ ops.toList := by
  rw [Array.mem_toList_iff]
  exact Array.mem_of_getElem? ho
 have := h o hm
 intro e
 rw [e] at this
 cases this
theorem region_inRound {l n id : Nat} {ops : Array Oper} {Q : Exit → Act → World → Prop} {a : Act} {w : World} {S : World → Prop} (hn : noDefer ops = true) (hQ : ¬ LetsOut Q) (hm : P.follows .mixedOrders = true) (hS : S w.drew)
  (h : S w.drew → wpAnyH P .any ops Q S ops.size (Array.replicate ops.size false) a w.drew) : (Code.region id ops true).wpIn (Fence.wide.inRound l) n P Q a w :=
 wpIn_region_draw fun t => by
  refine ops_inRound (noDefer_at hn) hQ _ _ _ ?_
  simp only [Region.schedule, hm, Bool.true_or, if_true]
  exact wpAny_sound ops.size t _ a _ (wpAny_of_held _ _ _ _ (h hS))
end Go
/- lychgateref01.Meet: a contract. -/
namespace Go.Proofs.YtipnhpfpppblhaaGreat
open Go.RowKit
end Go.Proofs.YtipnhpfpppblhaaGreat
/- What an alert is, cut to a label, plainly; a box with an alert. -/
namespace Go.Proofs.YtipnhpfpppblhaaGreat
open Go.RowKit
def zAl : Al := ⟨⟨#[]⟩, [], 0, 0, 0, 0⟩
def cutAl (rs : List Nmd) (x : Al) (t : Int × Nat) : Al := if cutOk rs x.fl (x.lv, x.c) t then ⟨x.src, visL rs x.fl (x.lv, x.c) t, x.lv, x.c, x.fr, x.til⟩ else zAl
theorem cutAl_yes {rs : List Nmd} {x : Al} {t : Int × Nat} (h : cutOk rs x.fl (x.lv, x.c) t = true) : cutAl rs x t = ⟨x.src, visL rs x.fl (x.lv, x.c) t, x.lv, x.c, x.fr, x.til⟩ := if_pos h
theorem cut_l (s0 s1 s2 s4 s5 : Option Addr × Nat × Nat) (rs : List Nmd) (rv : Value) (x : Al) (fv : Value) (t : Int × Nat) (m : Al) (ok : Bool) (w : World) (hv : NmdsAt w rv rs) (hl : rs.length ≤ maxLen) (hf : FldsAt w fv x.fl) (hfl : x.fl.length ≤ 1000000000000)
  (hok : cutOk rs x.fl (x.lv, x.c) t = ok) (hm : cutAl rs x t = m) :
  Calls Tryz.prog 20 #[.agg #[SV s0, SV s1, SV s2, rv, SV s4, SV s5], AlV x fv, Lab t.1 t.2] w fun e w' =>
   ∃ pa pc, e = .returned (.tuple #[AlV m (.slice pa m.fl.length pc), .bool ok]) ∧ FldsAt w' (.slice pa m.fl.length pc) m.fl ∧ (∀ q, (Value.slice pa m.fl.length pc).ownBlock = some q → w.heap.size ≤ q) ∧ Below w.heap.size w w' := by
 refine (cut_any s0 s1 s2 s4 s5 rs rv x.src x.fl fv x.lv x.c x.fr x.til t.1 t.2 w hv hl hf hfl).mono ?_
 rintro e w' ⟨v', h1, h2, h3, rfl⟩
 rw [show (t.1, t.2) = t from rfl] at h1 ⊢
 rw [hok]
 unfold cutAl at hm
 rw [hok] at hm
 subst hm
 cases ok
 ·exact ⟨none, 0, rfl, RdAt.nil w' 2, (fun q h => by cases h), h3⟩
 ·obtain ⟨pa, pc, rfl, _, _⟩ := RdAt.shape h1
  exact ⟨pa, pc, rfl, h1, h2, h3⟩
/-! ### plain laws of what is cut -/
theorem vis_le (rs : List Nmd) (fl : List Fld) (f s : Int × Nat) : (visL rs fl f s).length ≤ fl.length := List.length_filter_le _ _
/-! ### boxes -/
structure ABx (g : Nat) (src : ByteArray) (L : List Fld) (a : Option Addr) (m : Nat) (lv : Int) (c : Nat) (fr til : Int) (W : World) : Prop where
 x : C6 g (.string src) (.slice a L.length m) (.int .i64 lv) (.int .u32 c) (.int .i64 fr) (.int .i64 til) W
 lt : g < W.heap.size
 f : FldsAt W (.slice a L.length m) L
end Go.Proofs.YtipnhpfpppblhaaGreat
/- Several parts in one: lychgateref06.Name: a contract, the same as match.Name's. lychgateref06.Ahead, Right: contracts, the same as match's. lychgateref06.Right: a contract, the same as match.Right's. -/
namespace Go.Proofs.YtipnhpfpppblhaaGreat.refName
open Go.RowKit
def clB (l : List UInt8) : Bool := !(l.head?.any fun c => digN c.toNat) && !(l.any fun c => oddN c.toNat)
theorem nameL_clB (l : List UInt8) : nameL l = (decide (1 ≤ l.length) && decide (l.length ≤ 12) && clB l) := by
 cases l with
 | nil => rfl
 | cons c l => simp [nameL, clB, Bool.and_assoc]
theorem clB_one (c : UInt8) : clB [c] = (!digN c.toNat && !oddN c.toNat) := by simp [clB]
theorem clB_snoc {l : List UInt8} (h : l ≠ []) (c : UInt8) : clB (l ++ [c]) = (clB l && !oddN c.toNat) := by
 obtain ⟨d, r, rfl⟩ := List.exists_cons_of_ne_nil h
 simp [clB, Bool.and_assoc]
theorem clB_bad {l : List UInt8} (k : Nat) (h : clB (l.take k) = false) : clB l = false := by
 cases l with
 | nil => simpa using h
 | cons c l =>
  cases k with
  | zero => cases h
  | succ k =>
   rw [List.take_succ_cons] at h
   simp only [clB, List.head?_cons, Bool.and_eq_false_iff, Bool.not_eq_false'] at *
   rcases h with h | h
   ·exact .inl h
   ·right
    rw [List.any_eq_true] at *
    obtain ⟨x, hx, hp⟩ := h
    refine ⟨x, ?_, hp⟩
    rcases List.mem_cons.1 hx with rfl | hx
    ·exact List.mem_cons_self ..
    ·exact List.mem_cons_of_mem _ (List.mem_of_mem_take hx)
set_option maxHeartbeats 1600000 in
theorem name_any (s : ByteArray) (w : World) (hs : s.size ≤ maxLen) :
  Calls Tryz.prog 40 #[.string s] w fun e w' => e = .returned (.bool (nameL (B s))) ∧ w = w' := by
 unfold maxLen at hs
 have HNL : Hid (nameL (B s) = (decide (1 ≤ s.size) && decide (s.size ≤ 12) && clB (B s))) := by show _ = _; rw [nameL_clB, len_B]
 go_enter Tryz.func40, Tryz.ntmps40
 go_wp2
 go_loop [3] (fun x => ∃ k : Nat, k ≤ s.size ∧ x = .int .i64 k ∧ Hid (clB ((B s).take k) = true)) (fun x => s.size - (intOf x).toNat)
 case atStart => exact ⟨0, Nat.zero_le _, rfl, rfl⟩
 case round =>
  obtain ⟨k, hk, rfl, HC⟩ := hrel
  by_cases hlt : k < s.size
  ·have HT1 : Hid ((B s).take (k + 1) = (B s).take k ++ [s[k]]) := take_succ_B s k hlt
   have hstep : clB ((B s).take (k + 1)) = (!(oddN s[k].toNat) && !(decide (k = 0) && digN s[k].toNat)) := by
    rw [HT1.out]
    by_cases h0 : k = 0
    ·subst h0
     rw [List.take_zero, List.nil_append, clB_one]
     simp [Bool.and_comm]
    ·rw [clB_snoc (by
      intro e
      have := congrArg List.length e
      rw [List.length_take, len_B, List.length_nil] at this
      omega), HC.out]
     simp [h0]
   have HST := Lib.hid hstep
   clear hstep
   rcases (show (s[k].toNat : Int) < 48 ∨ ((48 : Int) ≤ (s[k].toNat : Int) ∧ (s[k].toNat : Int) ≤ 57) ∨ (57 < (s[k].toNat : Int) ∧ (s[k].toNat : Int) < 95) ∨ (s[k].toNat : Int) = 95 ∨ (s[k].toNat : Int) = 96 ∨ ((97 : Int) ≤ (s[k].toNat : Int) ∧ (s[k].toNat : Int) ≤ 122) ∨ 122 < (s[k].toNat : Int) by omega) with h | ⟨h, h'⟩ | ⟨h, h'⟩ | h | h | ⟨h, h'⟩ | h
   ·have ho : oddN s[k].toNat = true := by simp [oddN]; omega
    have hd : digN s[k].toNat = false := by simp [digN]; omega
    have HO := Lib.hid ho
    have HD := Lib.hid hd
    clear ho hd
    have HR : Hid (nameL (B s) = false) := by
     show _ = _
     rw [HNL.out, clB_bad (k + 1) (by rw [HST.out, HO.out]; simp), Bool.and_false]
    clear HNL
    have e1 : ((s[k].toNat : Int) != 95) = true := by rw [bne_iff_ne]; omega
    go_wp2
    go_ret
    exact ⟨by rw [HR.out]; rfl, rfl⟩
   ·have ho : oddN s[k].toNat = false := by simp [oddN]; omega
    have hd : digN s[k].toNat = true := by simp [digN]; omega
    have HO := Lib.hid ho
    have HD := Lib.hid hd
    clear ho hd
    by_cases h0 : k = 0
    ·subst h0
     have HR : Hid (nameL (B s) = false) := by
      show _ = _
      rw [HNL.out, clB_bad (0 + 1) (by rw [HST.out, HO.out, HD.out]; simp), Bool.and_false]
     clear HNL
     have e1 : ((s[0].toNat : Int) != 95) = true := by rw [bne_iff_ne]; omega
     go_wp2
     go_ret
     exact ⟨by rw [HR.out]; rfl, rfl⟩
    ·have hk0 : 0 < k := by omega
     have HN : Hid (clB ((B s).take (k + 1)) = true) := by show _ = _; rw [HST.out, HO.out]; simp [h0]
     have e1 : ((s[k].toNat : Int) != 95) = true := by rw [bne_iff_ne]; omega
     clear h0
     go_wp2
     go_round
     case rel => exact ⟨k + 1, by omega, by go_num, HN⟩
     case measure => simp [intOf]; omega
   ·have ho : oddN s[k].toNat = true := by simp [oddN]; omega
    have hd : digN s[k].toNat = false := by simp [digN]; omega
    have HO := Lib.hid ho
    have HD := Lib.hid hd
    clear ho hd
    have HR : Hid (nameL (B s) = false) := by
     show _ = _
     rw [HNL.out, clB_bad (k + 1) (by rw [HST.out, HO.out]; simp), Bool.and_false]
    clear HNL
    have e1 : ((s[k].toNat : Int) != 95) = true := by rw [bne_iff_ne]; omega
    go_wp2
    go_ret
    exact ⟨by rw [HR.out]; rfl, rfl⟩
   ·have ho : oddN s[k].toNat = false := by simp [oddN]; omega
    have hd : digN s[k].toNat = false := by simp [digN]; omega
    have HO := Lib.hid ho
    have HD := Lib.hid hd
    clear ho hd
    have HN : Hid (clB ((B s).take (k + 1)) = true) := by show _ = _; rw [HST.out, HO.out, HD.out]; simp
    have e1 : ((s[k].toNat : Int) != 95) = false := by rw [bne_eq_false_iff_eq]; omega
    have e2 : (s[k].toNat : Int) < 97 := by omega
    clear h
    go_wp2
    go_round
    case rel => exact ⟨k + 1, by omega, by go_num, HN⟩
    case measure => simp [intOf]; omega
   ·have ho : oddN s[k].toNat = true := by simp [oddN]; omega
    have hd : digN s[k].toNat = false := by simp [digN]; omega
    have HO := Lib.hid ho
    have HD := Lib.hid hd
    clear ho hd
    have HR : Hid (nameL (B s) = false) := by
     show _ = _
     rw [HNL.out, clB_bad (k + 1) (by rw [HST.out, HO.out]; simp), Bool.and_false]
    clear HNL
    have e1 : ((s[k].toNat : Int) != 95) = true := by rw [bne_iff_ne]; omega
    have e2 : (s[k].toNat : Int) < 97 := by omega
    have e3 : 57 < (s[k].toNat : Int) := by omega
    clear h
    go_wp2
    go_ret
    exact ⟨by rw [HR.out]; rfl, rfl⟩
   ·have ho : oddN s[k].toNat = false := by simp [oddN]; omega
    have hd : digN s[k].toNat = false := by simp [digN]; omega
    have HO := Lib.hid ho
    have HD := Lib.hid hd
    clear ho hd
    have HN : Hid (clB ((B s).take (k + 1)) = true) := by show _ = _; rw [HST.out, HO.out, HD.out]; simp
    go_wp2
    go_round
    case rel => exact ⟨k + 1, by omega, by go_num, HN⟩
    case measure => simp [intOf]; omega
   ·have ho : oddN s[k].toNat = true := by simp [oddN]; omega
    have hd : digN s[k].toNat = false := by simp [digN]; omega
    have HO := Lib.hid ho
    have HD := Lib.hid hd
    clear ho hd
    have HR : Hid (nameL (B s) = false) := by
     show _ = _
     rw [HNL.out, clB_bad (k + 1) (by rw [HST.out, HO.out]; simp), Bool.and_false]
    clear HNL
    have e1 : ((s[k].toNat : Int) != 95) = true := by rw [bne_iff_ne]; omega
    have e4 : decide ((s[k].toNat : Int) ≤ 122) = false := by rw [decide_eq_false_iff_not]; omega
    go_wp2
    go_ret
    exact ⟨by rw [HR.out]; rfl, rfl⟩
  ·obtain rfl : k = s.size := by omega
   have HC' : Hid (clB (B s) = true) := by
    have := HC.out
    rw [take_all_B] at this
    exact this
   clear HC
   by_cases h1 : 1 ≤ (s.size : Int)
   ·by_cases h2 : (s.size : Int) ≤ 12
    ·have HR : Hid (nameL (B s) = true) := by
      show _ = _
      rw [HNL.out, HC'.out, decide_eq_true (by omega), decide_eq_true (by omega)]; rfl
     clear HNL
     go_wp2
     go_ret
     exact ⟨by rw [HR.out]; rfl, rfl⟩
    ·have HR : Hid (nameL (B s) = false) := by
      show _ = _
      rw [HNL.out, decide_eq_false (p := s.size ≤ 12) (by omega)]; simp
     clear HNL
     go_wp2
     go_ret
     exact ⟨by rw [HR.out]; rfl, rfl⟩
   ·have HR : Hid (nameL (B s) = false) := by
     show _ = _
     rw [HNL.out, decide_eq_false (p := 1 ≤ s.size) (by omega)]; simp
    clear HNL
    go_wp2
    go_ret
    exact ⟨by rw [HR.out]; rfl, rfl⟩
end Go.Proofs.YtipnhpfpppblhaaGreat.refName
namespace Go.Proofs.YtipnhpfpppblhaaGreat
open Go.RowKit
theorem less_at {a b : List UInt8} : ∀ (k : Nat) (ha : k < a.length) (hb : k < b.length), a.take k = b.take k → a[k] ≠ b[k] → Op.bytesLess a b = decide (a[k] < b[k]) := by
 intro k
 induction k generalizing a b with
 | zero =>
  intro ha hb _ hne
  obtain ⟨x, a, rfl⟩ := List.exists_cons_of_length_pos ha
  obtain ⟨y, b, rfl⟩ := List.exists_cons_of_length_pos hb
  simp only [List.getElem_cons_zero] at hne ⊢
  have h1 : (x == y) = false := by rw [beq_eq_false_iff_ne]; exact hne
  simp [Op.bytesLess, h1]
 | succ k ih =>
  intro ha hb ht hne
  obtain ⟨x, a, rfl⟩ := List.exists_cons_of_length_pos (Nat.lt_of_le_of_lt (Nat.zero_le _) ha)
  obtain ⟨y, b, rfl⟩ := List.exists_cons_of_length_pos (Nat.lt_of_le_of_lt (Nat.zero_le _) hb)
  simp only [List.take_succ_cons, List.cons.injEq] at ht
  obtain ⟨rfl, ht⟩ := ht
  simp only [List.getElem_cons_succ] at hne ⊢
  have := ih (by simpa using ha) (by simpa using hb) ht hne
  simp [Op.bytesLess, this]
theorem less_end {a b : List UInt8} : ∀ (k : Nat), a.take k = b.take k → (k = a.length ∧ k ≤ b.length ∨ k = b.length ∧ k ≤ a.length) → Op.bytesLess a b = decide (a.length < b.length) := by
 intro k
 induction k generalizing a b with
 | zero =>
  intro _ h
  rcases h with ⟨h, _⟩ | ⟨h, _⟩
  ·have : a = [] := List.length_eq_zero_iff.1 h.symm
   subst this
   cases b <;> simp [Op.bytesLess]
  ·have : b = [] := List.length_eq_zero_iff.1 h.symm
   subst this
   cases a <;> simp [Op.bytesLess]
 | succ k ih =>
  intro ht h
  have ha : 0 < a.length := by omega
  have hb : 0 < b.length := by omega
  obtain ⟨x, a, rfl⟩ := List.exists_cons_of_length_pos ha
  obtain ⟨y, b, rfl⟩ := List.exists_cons_of_length_pos hb
  simp only [List.take_succ_cons, List.cons.injEq] at ht
  obtain ⟨rfl, ht⟩ := ht
  simp only [List.length_cons] at h ⊢
  have := ih ht (by omega)
  simp [Op.bytesLess, this]
theorem B_at (s : ByteArray) (k : Nat) (h : k < s.size) (h' : k < (B s).length) : (B s)[k] = s[k] := by
 have h1 := take_succ_B s k h
 rw [List.take_succ_eq_append_getElem h'] at h1
 have := List.append_cancel_left h1
 simpa using this
set_option maxHeartbeats 1600000 in
set_option maxRecDepth 100000 in
theorem rahead_any (a b : ByteArray) (w : World) (ha : a.size ≤ maxLen) :
  Calls Tryz.prog 75 #[.string a, .string b] w fun e w' => e = .returned (.bool (ltS a b)) ∧ Below w.heap.size w w' := by
 unfold maxLen at ha
 have HL : Hid (ltS a b = Op.bytesLess (B a) (B b)) := by show _ = _; unfold ltS; rw [toList_B, toList_B]
 go_enter Tryz.func75, Tryz.ntmps75
 go_wp2
 go_loopw [5] (fun i wr => ∃ k : Nat, k ≤ a.size ∧ k ≤ b.size ∧ i = .int .i64 k ∧ Hid ((B a).take k = (B b).take k) ∧ Below w.heap.size w wr) (fun i _ => a.size - (intOf i).toNat)
 case atStart => exact ⟨0, Nat.zero_le _, Nat.zero_le _, rfl, Lib.hid rfl, Below.refl _ _⟩
 case round =>
  obtain ⟨k, hk1, hk2, rfl, HT, hbr⟩ := hrel
  by_cases h1 : k < a.size
  ·by_cases h2 : k < b.size
   ·obtain ⟨x, hx⟩ : ∃ x, a[k] = x := ⟨_, rfl⟩
    obtain ⟨y, hy⟩ : ∃ y, b[k] = y := ⟨_, rfl⟩
    have l1 : k < (B a).length := by rw [len_B]; exact h1
    have l2 : k < (B b).length := by rw [len_B]; exact h2
    by_cases hxy : x = y
    ·have HN : Hid ((B a).take (k + 1) = (B b).take (k + 1)) := take_step HT.out l1 l2 (by rw [B_at a k h1 l1, B_at b k h2 l2, hx, hy, hxy])
     have hne : ((x.toNat : Int) != (y.toNat : Int)) = false := by rw [hxy]; simp
     clear l1 l2 hxy
     go_wp2
     go_quiet (fail)
     have hb2 : Below w.heap.size w (wr.drewN nq) := bl_drewN hbr nq
     generalize wr.drewN nq = wq at *
     go_wp2
     go_roundw
     case rel => exact ⟨k + 1, by omega, by omega, by go_num, HN, hb2⟩
     case measure => simp [intOf]; omega
    ·have hr : ltS a b = decide (x < y) := by
      rw [HL.out, less_at k l1 l2 HT.out (by rw [B_at a k h1 l1, B_at b k h2 l2, hx, hy]; exact hxy), B_at a k h1 l1, B_at b k h2 l2, hx, hy]
     have HR := Lib.hid hr
     have hne : ((x.toNat : Int) != (y.toNat : Int)) = true := by
      rw [bne_iff_ne]; intro h; exact hxy (UInt8.toNat_inj.1 (by omega))
     clear l1 l2 hxy hr
     go_wp2
     go_quiet (fail)
     have hb2 : Below w.heap.size w (wr.drewN nq) := bl_drewN hbr nq
     generalize wr.drewN nq = wq at *
     clear nq
     go_wp2
     go_quiet (fail)
     have hb3 : Below w.heap.size w (wq.drewN nq) := bl_drewN hb2 nq
     generalize wq.drewN nq = wz at *
     go_wp2
     go_ret
     exact ⟨by rw [HR.out]; simp [UInt8.lt_iff_toNat_lt], hb3⟩
   ·obtain rfl : k = b.size := by omega
    have hr : ltS a b = decide ((B a).length < (B b).length) := by rw [HL.out]; exact less_end b.size HT.out (.inr ⟨(len_B b).symm, by rw [len_B]; exact hk1⟩)
    rw [len_B, len_B] at hr
    have HR := Lib.hid hr
    clear hr
    go_wp2
    go_ret
    exact ⟨by rw [HR.out]; simp, hbr⟩
  ·obtain rfl : k = a.size := by omega
   have hr : ltS a b = decide ((B a).length < (B b).length) := by rw [HL.out]; exact less_end a.size HT.out (.inl ⟨(len_B a).symm, by rw [len_B]; exact hk2⟩)
   rw [len_B, len_B] at hr
   have HR := Lib.hid hr
   clear hr
   go_wp2
   go_ret
   exact ⟨by rw [HR.out]; simp, hbr⟩
end Go.Proofs.YtipnhpfpppblhaaGreat
namespace Go.Proofs.YtipnhpfpppblhaaGreat
open Go.RowKit
set_option maxHeartbeats 3200000 in
set_option maxRecDepth 100000 in
theorem rright6_any (l : List Fld) (w : World) (v : Value) (hv : FldsAt w v l) (hf : FldsFit l) (hl : l.length ≤ maxLen) :
  Calls Tryz.prog 41 #[v] w fun e w' => e = .returned (.bool (rightF l)) ∧ Below w.heap.size w w' := by
 unfold maxLen at hl
 obtain ⟨a, c, rfl, hc, hr⟩ := RdAt.shape hv
 have HR := Lib.hid hr
 have HF := Lib.hid hf
 clear hr hv hf
 go_enter Tryz.func41, Tryz.ntmps41
 go_wp2
 go_loopw [3] (fun i wr => ∃ k : Nat, k ≤ l.length ∧ i = .int .i64 k ∧ Hid (∀ j, j < k → fldOk l j = true) ∧ Below w.heap.size w wr) (fun i _ => l.length - (intOf i).toNat)
 case atStart => exact ⟨0, Nat.zero_le _, rfl, Lib.hid (fun j hj => absurd hj (Nat.not_lt_zero j)), Below.refl _ _⟩
 case round =>
  obtain ⟨k, hk, rfl, HT, hbr⟩ := hrel
  by_cases hkl : k < l.length
  ·obtain ⟨b, o, rfl, hb, hcell⟩ := HR.out (by omega)
   obtain ⟨x, hxe⟩ : ∃ x, l[k].1 = x := ⟨_, rfl⟩
   obtain ⟨y, hye⟩ : ∃ y, l[k].2 = y := ⟨_, rfl⟩
   have hfs := HF.out _ (List.getElem_mem hkl)
   rw [hxe, hye] at hfs
   obtain ⟨hx0, hy0⟩ := fldCells_at l k hkl
   rw [hxe] at hx0
   rw [hye] at hy0
   have a0 : wr.cell? ⟨b, o + k * 2, none⟩ = some (.string x) := keep_cell (hcell _ _ hx0) hbr hb
   have a1 : wr.cell? ⟨b, o + k * 2 + 1, none⟩ = some (.string y) := keep_cell (by have := hcell _ _ hy0; rwa [← Nat.add_assoc] at this) hbr hb
   have hwb : b < wr.heap.size := Nat.lt_of_lt_of_le hb hbr.size
   have hall : ∀ j v, (fldCells l)[j]? = some v → wr.cell? ⟨b, o + j, none⟩ = some v := fun j v hj => keep_cell (hcell _ _ hj) hbr hb
   have hn : ∀ W, Calls Tryz.prog 40 #[.string x] W fun e w' => e = .returned (.bool (nameL (B x))) ∧ w' = W := fun W => (refName.name_any x W hfs.1).mono (by rintro e w' ⟨h1, h2⟩; exact ⟨h1, h2.symm⟩)
   have hys : y.size ≤ 9223372036854775807 := by have := hfs.2; unfold maxLen at this; omega
   have hstep : fldOk l k = true → Hid (∀ j, j < k + 1 → fldOk l j = true) := fun h => Lib.hid (fun j hj => by
    rcases Nat.lt_or_ge j k with h' | h'
    ·exact HT.out j h'
    ·obtain rfl : j = k := by omega
     exact h)
   have hbad : fldOk l k = false → Hid (rightF l = false) := fun h => rightF_bad hkl h
   have hgx : l.getD k default = (x, y) := by rw [List.getD_eq_getElem?_getD, List.getElem?_eq_getElem hkl]; show l[k] = _; rw [← hxe, ← hye]
   unfold fldOk at hstep hbad
   rw [hgx] at hstep hbad
   clear hcell hx0 hy0 hxe hye hgx HT
   cases hnm : nameL (B x)
   ·have HZ := hbad (by rw [hnm]; rfl)
    rw [hnm] at hn
    clear hstep hbad hall hnm hfs
    go_upto_region 4 with fail
    refine wp_region_held_drew (S := (fun W => W.cell? ⟨b, o + k * 2, none⟩ = some (.string x) ∧ W.cell? ⟨b, o + k * 2 + 1, none⟩ = some (.string y))) (by kernel_rfl) ⟨a0, a1⟩ (fun hHeld => ?_)
    refine hT (i := 0) (v := ?_) rfl rfl hHeld ?_ ?_
    rotate_left
    ·rintro wh ⟨z0, z1⟩
     go_simp
     (try with_reducible rfl)
    simp only [Act.put, List.setIfInBounds_toArray, List.set_cons_zero, List.set_cons_succ]
    refine hT (i := 1) (v := ?_) rfl rfl hHeld ?_ ?_
    rotate_left
    ·rintro wh ⟨z0, z1⟩
     go_simp
     (try with_reducible rfl)
    simp only [Act.put, List.setIfInBounds_toArray, List.set_cons_zero, List.set_cons_succ]
    refine hT (i := 2) (v := ?_) rfl rfl hHeld ?_ ?_
    rotate_left
    ·rintro wh ⟨z0, z1⟩
     go_simp
     (try with_reducible rfl)
    simp only [Act.put, List.setIfInBounds_toArray, List.set_cons_zero, List.set_cons_succ]
    refine hT (i := 3) (v := ?_) rfl rfl hHeld ?_ ?_
    rotate_left
    ·rintro wh ⟨z0, z1⟩
     go_simp
     (try with_reducible rfl)
    simp only [Act.put, List.setIfInBounds_toArray, List.set_cons_zero, List.set_cons_succ]
    refine hT (i := 4) (v := ?_) rfl rfl hHeld ?_ ?_
    rotate_left
    ·rintro wh ⟨z0, z1⟩
     go_simp
     (try with_reducible rfl)
    simp only [Act.put, List.setIfInBounds_toArray, List.set_cons_zero, List.set_cons_succ]
    refine held_call (i := 5) rfl (by kernel_rfl) (by rfl) (fun K hK => ?_)
    (go_simp; go_at_call 40; refine (hn _).mono ?_; rintro e w1 ⟨rfl, rfl⟩; have hB1 : Below wr.heap.size wr wr.drew := (Below.refl _ _).drew)
    refine hK.out _ _ ⟨keep_cell a0 hB1 hwb, keep_cell a1 hB1 hwb⟩ (fun hHeld => ?_)
    clear hK K
    (try simp only [Act.put, List.setIfInBounds_toArray, List.set_cons_zero, List.set_cons_succ])
    refine hT (i := 6) (v := ?_) rfl rfl hHeld ?_ ?_
    rotate_left
    ·rintro wh ⟨z0, z1⟩
     go_simp
     (try with_reducible rfl)
    simp only [Act.put, List.setIfInBounds_toArray, List.set_cons_zero, List.set_cons_succ]
    refine hT (i := 7) (v := ?_) rfl rfl hHeld ?_ ?_
    rotate_left
    ·rintro wh ⟨z0, z1⟩
     go_simp
     (try with_reducible rfl)
    simp only [Act.put, List.setIfInBounds_toArray, List.set_cons_zero, List.set_cons_succ]
    refine held_skip (i := 8) rfl rfl (by kernel_rfl) (by kernel_rfl) (by kernel_rfl) (fun _ _ _ h => h) (by rfl) hHeld ?_
    simp only [Act.put, List.setIfInBounds_toArray, List.set_cons_zero, List.set_cons_succ]
    refine held_skip (i := 9) rfl rfl (by kernel_rfl) (by kernel_rfl) (by kernel_rfl) (fun _ _ _ h => h) (by rfl) hHeld ?_
    simp only [Act.put, List.setIfInBounds_toArray, List.set_cons_zero, List.set_cons_succ]
    refine held_skip (i := 10) rfl rfl (by kernel_rfl) (by kernel_rfl) (by kernel_rfl) (fun _ _ _ h => h) (by rfl) hHeld ?_
    simp only [Act.put, List.setIfInBounds_toArray, List.set_cons_zero, List.set_cons_succ]
    refine held_skip (i := 11) rfl rfl (by kernel_rfl) (by kernel_rfl) (by kernel_rfl) (fun _ _ _ h => h) (by rfl) hHeld ?_
    simp only [Act.put, List.setIfInBounds_toArray, List.set_cons_zero, List.set_cons_succ]
    refine held_skip (i := 12) rfl rfl (by kernel_rfl) (by kernel_rfl) (by kernel_rfl) (fun _ _ _ h => h) (by rfl) hHeld ?_
    simp only [Act.put, List.setIfInBounds_toArray, List.set_cons_zero, List.set_cons_succ]
    refine held_skip (i := 13) rfl rfl (by kernel_rfl) (by kernel_rfl) (by kernel_rfl) (fun _ _ _ h => h) (by rfl) hHeld ?_
    simp only [Act.put, List.setIfInBounds_toArray, List.set_cons_zero, List.set_cons_succ]
    refine held_skip (i := 14) rfl rfl (by kernel_rfl) (by kernel_rfl) (by kernel_rfl) (fun _ _ _ h => h) (by rfl) hHeld ?_
    simp only [Act.put, List.setIfInBounds_toArray, List.set_cons_zero, List.set_cons_succ]
    refine hT (i := 15) (v := ?_) rfl rfl hHeld ?_ ?_
    rotate_left
    ·rintro wh ⟨z0, z1⟩
     go_simp
     (try with_reducible rfl)
    simp only [Act.put, List.setIfInBounds_toArray, List.set_cons_zero, List.set_cons_succ]
    refine hT (i := 16) (v := ?_) rfl rfl hHeld ?_ ?_
    rotate_left
    ·rintro wh ⟨z0, z1⟩
     go_simp
     (try with_reducible rfl)
    simp only [Act.put, List.setIfInBounds_toArray, List.set_cons_zero, List.set_cons_succ]
    refine held_skip (i := 17) rfl rfl (by kernel_rfl) (by kernel_rfl) (by kernel_rfl) (fun _ _ _ h => h) (by rfl) hHeld ?_
    simp only [Act.put, List.setIfInBounds_toArray, List.set_cons_zero, List.set_cons_succ]
    refine held_skip (i := 18) rfl rfl (by kernel_rfl) (by kernel_rfl) (by kernel_rfl) (fun _ _ _ h => h) (by rfl) hHeld ?_
    simp only [Act.put, List.setIfInBounds_toArray, List.set_cons_zero, List.set_cons_succ]
    refine held_skip (i := 19) rfl rfl (by kernel_rfl) (by kernel_rfl) (by kernel_rfl) (fun _ _ _ h => h) (by rfl) hHeld ?_
    simp only [Act.put, List.setIfInBounds_toArray, List.set_cons_zero, List.set_cons_succ]
    refine held_skip (i := 20) rfl rfl (by kernel_rfl) (by kernel_rfl) (by kernel_rfl) (fun _ _ _ h => h) (by rfl) hHeld ?_
    simp only [Act.put, List.setIfInBounds_toArray, List.set_cons_zero, List.set_cons_succ]
    refine held_skip (i := 21) rfl rfl (by kernel_rfl) (by kernel_rfl) (by kernel_rfl) (fun _ _ _ h => h) (by rfl) hHeld ?_
    simp only [Act.put, List.setIfInBounds_toArray, List.set_cons_zero, List.set_cons_succ]
    refine held_skip (i := 22) rfl rfl (by kernel_rfl) (by kernel_rfl) (by kernel_rfl) (fun _ _ _ h => h) (by rfl) hHeld ?_
    simp only [Act.put, List.setIfInBounds_toArray, List.set_cons_zero, List.set_cons_succ]
    refine held_skip (i := 23) rfl rfl (by kernel_rfl) (by kernel_rfl) (by kernel_rfl) (fun _ _ _ h => h) (by rfl) hHeld ?_
    simp only [Act.put, List.setIfInBounds_toArray, List.set_cons_zero, List.set_cons_succ]
    refine held_skip (i := 24) rfl rfl (by kernel_rfl) (by kernel_rfl) (by kernel_rfl) (fun _ _ _ h => h) (by rfl) hHeld ?_
    simp only [Act.put, List.setIfInBounds_toArray, List.set_cons_zero, List.set_cons_succ]
    refine held_skip (i := 25) rfl rfl (by kernel_rfl) (by kernel_rfl) (by kernel_rfl) (fun _ _ _ h => h) (by rfl) hHeld ?_
    simp only [Act.put, List.setIfInBounds_toArray, List.set_cons_zero, List.set_cons_succ]
    refine held_skip (i := 26) rfl rfl (by kernel_rfl) (by kernel_rfl) (by kernel_rfl) (fun _ _ _ h => h) (by rfl) hHeld ?_
    simp only [Act.put, List.setIfInBounds_toArray, List.set_cons_zero, List.set_cons_succ]
    refine held_skip (i := 27) rfl rfl (by kernel_rfl) (by kernel_rfl) (by kernel_rfl) (fun _ _ _ h => h) (by rfl) hHeld ?_
    simp only [Act.put, List.setIfInBounds_toArray, List.set_cons_zero, List.set_cons_succ]
    refine held_skip (i := 28) rfl rfl (by kernel_rfl) (by kernel_rfl) (by kernel_rfl) (fun _ _ _ h => h) (by rfl) hHeld ?_
    simp only [Act.put, List.setIfInBounds_toArray, List.set_cons_zero, List.set_cons_succ]
    refine held_skip (i := 29) rfl rfl (by kernel_rfl) (by kernel_rfl) (by kernel_rfl) (fun _ _ _ h => h) (by rfl) hHeld ?_
    simp only [Act.put, List.setIfInBounds_toArray, List.set_cons_zero, List.set_cons_succ]
    refine held_skip (i := 30) rfl rfl (by kernel_rfl) (by kernel_rfl) (by kernel_rfl) (fun _ _ _ h => h) (by rfl) hHeld ?_
    simp only [Act.put, List.setIfInBounds_toArray, List.set_cons_zero, List.set_cons_succ]
    refine held_skip (i := 31) rfl rfl (by kernel_rfl) (by kernel_rfl) (by kernel_rfl) (fun _ _ _ h => h) (by rfl) hHeld ?_
    simp only [Act.put, List.setIfInBounds_toArray, List.set_cons_zero, List.set_cons_succ]
    refine held_skip (i := 32) rfl rfl (by kernel_rfl) (by kernel_rfl) (by kernel_rfl) (fun _ _ _ h => h) (by rfl) hHeld ?_
    simp only [Act.put, List.setIfInBounds_toArray, List.set_cons_zero, List.set_cons_succ]
    refine held_skip (i := 33) rfl rfl (by kernel_rfl) (by kernel_rfl) (by kernel_rfl) (fun _ _ _ h => h) (by rfl) hHeld ?_
    simp only [Act.put, List.setIfInBounds_toArray, List.set_cons_zero, List.set_cons_succ]
    refine hT (i := 34) (v := ?_) rfl rfl hHeld ?_ ?_
    rotate_left
    ·rintro wh ⟨z0, z1⟩
     go_simp
     (try with_reducible rfl)
    simp only [Act.put, List.setIfInBounds_toArray, List.set_cons_zero, List.set_cons_succ]
    refine wpAnyH_done (by kernel_rfl) ?_ _
    have hbn : Below w.heap.size w wr.drew := hbr.trans (hB1.mono hbr.size)
    clear hB1 hn
    generalize wr.drew = wq at *
    go_wp2
    go_ret
    exact ⟨by rw [HZ.out]; rfl, hbn⟩
   ·rw [hnm] at hn
    by_cases hy2 : y.size ≤ 200
    ·have g1 : decide ((200 : Int) < (y.size : Int)) = false := decide_eq_false (by omega)
     rcases Nat.eq_zero_or_pos k with hk0 | hk0
     ·have HN := hstep (by rw [hnm, decide_eq_true hy2, decide_eq_true hk0]; rfl)
      subst hk0
      rw [Nat.zero_mul, Nat.add_zero] at a0 a1
      clear hstep hbad hall hnm hy2 hfs
      go_upto_region 4 with fail
      refine wp_region_held_drew (S := (fun W => W.cell? ⟨b, o, none⟩ = some (.string x) ∧ W.cell? ⟨b, o + 1, none⟩ = some (.string y))) (by kernel_rfl) ⟨a0, a1⟩ (fun hHeld => ?_)
      refine hT (i := 0) (v := ?_) rfl rfl hHeld ?_ ?_
      rotate_left
      ·rintro wh ⟨z0, z1⟩
       go_simp
       (try with_reducible rfl)
      simp only [Act.put, List.setIfInBounds_toArray, List.set_cons_zero, List.set_cons_succ]
      refine hT (i := 1) (v := ?_) rfl rfl hHeld ?_ ?_
      rotate_left
      ·rintro wh ⟨z0, z1⟩
       go_simp
       (try with_reducible rfl)
      simp only [Act.put, List.setIfInBounds_toArray, List.set_cons_zero, List.set_cons_succ]
      refine hT (i := 2) (v := ?_) rfl rfl hHeld ?_ ?_
      rotate_left
      ·rintro wh ⟨z0, z1⟩
       go_simp
       (try with_reducible rfl)
      simp only [Act.put, List.setIfInBounds_toArray, List.set_cons_zero, List.set_cons_succ]
      refine hT (i := 3) (v := ?_) rfl rfl hHeld ?_ ?_
      rotate_left
      ·rintro wh ⟨z0, z1⟩
       go_simp
       (try with_reducible rfl)
      simp only [Act.put, List.setIfInBounds_toArray, List.set_cons_zero, List.set_cons_succ]
      refine hT (i := 4) (v := ?_) rfl rfl hHeld ?_ ?_
      rotate_left
      ·rintro wh ⟨z0, z1⟩
       go_simp
       (try with_reducible rfl)
      simp only [Act.put, List.setIfInBounds_toArray, List.set_cons_zero, List.set_cons_succ]
      refine held_call (i := 5) rfl (by kernel_rfl) (by rfl) (fun K hK => ?_)
      (go_simp; go_at_call 40; refine (hn _).mono ?_; rintro e w1 ⟨rfl, rfl⟩; have hB1 : Below wr.heap.size wr wr.drew := (Below.refl _ _).drew)
      refine hK.out _ _ ⟨keep_cell a0 hB1 hwb, keep_cell a1 hB1 hwb⟩ (fun hHeld => ?_)
      clear hK K
      (try simp only [Act.put, List.setIfInBounds_toArray, List.set_cons_zero, List.set_cons_succ])
      refine hT (i := 6) (v := ?_) rfl rfl hHeld ?_ ?_
      rotate_left
      ·rintro wh ⟨z0, z1⟩
       go_simp
       (try with_reducible rfl)
      simp only [Act.put, List.setIfInBounds_toArray, List.set_cons_zero, List.set_cons_succ]
      refine hT (i := 7) (v := ?_) rfl rfl hHeld ?_ ?_
      rotate_left
      ·rintro wh ⟨z0, z1⟩
       go_simp
       (try with_reducible rfl)
      simp only [Act.put, List.setIfInBounds_toArray, List.set_cons_zero, List.set_cons_succ]
      refine hT (i := 8) (v := ?_) rfl rfl hHeld ?_ ?_
      rotate_left
      ·rintro wh ⟨z0, z1⟩
       go_simp
       (try with_reducible rfl)
      simp only [Act.put, List.setIfInBounds_toArray, List.set_cons_zero, List.set_cons_succ]
      refine hT (i := 9) (v := ?_) rfl rfl hHeld ?_ ?_
      rotate_left
      ·rintro wh ⟨z0, z1⟩
       go_simp
       (try with_reducible rfl)
      simp only [Act.put, List.setIfInBounds_toArray, List.set_cons_zero, List.set_cons_succ]
      refine hT (i := 10) (v := ?_) rfl rfl hHeld ?_ ?_
      rotate_left
      ·rintro wh ⟨z0, z1⟩
       go_simp
       (try with_reducible rfl)
      simp only [Act.put, List.setIfInBounds_toArray, List.set_cons_zero, List.set_cons_succ]
      refine hT (i := 11) (v := ?_) rfl rfl hHeld ?_ ?_
      rotate_left
      ·rintro wh ⟨z0, z1⟩
       go_simp
       (try with_reducible rfl)
      simp only [Act.put, List.setIfInBounds_toArray, List.set_cons_zero, List.set_cons_succ]
      refine hT (i := 12) (v := ?_) rfl rfl hHeld ?_ ?_
      rotate_left
      ·rintro wh ⟨z0, z1⟩
       go_simp
       (try with_reducible rfl)
      simp only [Act.put, List.setIfInBounds_toArray, List.set_cons_zero, List.set_cons_succ]
      refine hT (i := 13) (v := ?_) rfl rfl hHeld ?_ ?_
      rotate_left
      ·rintro wh ⟨z0, z1⟩
       go_simp
       (try with_reducible rfl)
      simp only [Act.put, List.setIfInBounds_toArray, List.set_cons_zero, List.set_cons_succ]
      refine hT (i := 14) (v := ?_) rfl rfl hHeld ?_ ?_
      rotate_left
      ·rintro wh ⟨z0, z1⟩
       go_simp
       (try with_reducible rfl)
      simp only [Act.put, List.setIfInBounds_toArray, List.set_cons_zero, List.set_cons_succ]
      refine hT (i := 15) (v := ?_) rfl rfl hHeld ?_ ?_
      rotate_left
      ·rintro wh ⟨z0, z1⟩
       go_simp
       (try with_reducible rfl)
      simp only [Act.put, List.setIfInBounds_toArray, List.set_cons_zero, List.set_cons_succ]
      refine hT (i := 16) (v := ?_) rfl rfl hHeld ?_ ?_
      rotate_left
      ·rintro wh ⟨z0, z1⟩
       go_simp
       (try with_reducible rfl)
      simp only [Act.put, List.setIfInBounds_toArray, List.set_cons_zero, List.set_cons_succ]
      refine hT (i := 17) (v := ?_) rfl rfl hHeld ?_ ?_
      rotate_left
      ·rintro wh ⟨z0, z1⟩
       go_simp
       (try with_reducible rfl)
      simp only [Act.put, List.setIfInBounds_toArray, List.set_cons_zero, List.set_cons_succ]
      refine hT (i := 18) (v := ?_) rfl rfl hHeld ?_ ?_
      rotate_left
      ·rintro wh ⟨z0, z1⟩
       go_simp
       (try with_reducible rfl)
      simp only [Act.put, List.setIfInBounds_toArray, List.set_cons_zero, List.set_cons_succ]
      refine hT (i := 19) (v := ?_) rfl rfl hHeld ?_ ?_
      rotate_left
      ·rintro wh ⟨z0, z1⟩
       go_simp
       (try with_reducible rfl)
      simp only [Act.put, List.setIfInBounds_toArray, List.set_cons_zero, List.set_cons_succ]
      refine held_skip (i := 20) rfl rfl (by kernel_rfl) (by kernel_rfl) (by kernel_rfl) (fun _ _ _ h => h) (by rfl) hHeld ?_
      simp only [Act.put, List.setIfInBounds_toArray, List.set_cons_zero, List.set_cons_succ]
      refine held_skip (i := 21) rfl rfl (by kernel_rfl) (by kernel_rfl) (by kernel_rfl) (fun _ _ _ h => h) (by rfl) hHeld ?_
      simp only [Act.put, List.setIfInBounds_toArray, List.set_cons_zero, List.set_cons_succ]
      refine held_skip (i := 22) rfl rfl (by kernel_rfl) (by kernel_rfl) (by kernel_rfl) (fun _ _ _ h => h) (by rfl) hHeld ?_
      simp only [Act.put, List.setIfInBounds_toArray, List.set_cons_zero, List.set_cons_succ]
      refine held_skip (i := 23) rfl rfl (by kernel_rfl) (by kernel_rfl) (by kernel_rfl) (fun _ _ _ h => h) (by rfl) hHeld ?_
      simp only [Act.put, List.setIfInBounds_toArray, List.set_cons_zero, List.set_cons_succ]
      refine held_skip (i := 24) rfl rfl (by kernel_rfl) (by kernel_rfl) (by kernel_rfl) (fun _ _ _ h => h) (by rfl) hHeld ?_
      simp only [Act.put, List.setIfInBounds_toArray, List.set_cons_zero, List.set_cons_succ]
      refine held_skip (i := 25) rfl rfl (by kernel_rfl) (by kernel_rfl) (by kernel_rfl) (fun _ _ _ h => h) (by rfl) hHeld ?_
      simp only [Act.put, List.setIfInBounds_toArray, List.set_cons_zero, List.set_cons_succ]
      refine held_skip (i := 26) rfl rfl (by kernel_rfl) (by kernel_rfl) (by kernel_rfl) (fun _ _ _ h => h) (by rfl) hHeld ?_
      simp only [Act.put, List.setIfInBounds_toArray, List.set_cons_zero, List.set_cons_succ]
      refine held_skip (i := 27) rfl rfl (by kernel_rfl) (by kernel_rfl) (by kernel_rfl) (fun _ _ _ h => h) (by rfl) hHeld ?_
      simp only [Act.put, List.setIfInBounds_toArray, List.set_cons_zero, List.set_cons_succ]
      refine held_skip (i := 28) rfl rfl (by kernel_rfl) (by kernel_rfl) (by kernel_rfl) (fun _ _ _ h => h) (by rfl) hHeld ?_
      simp only [Act.put, List.setIfInBounds_toArray, List.set_cons_zero, List.set_cons_succ]
      refine held_skip (i := 29) rfl rfl (by kernel_rfl) (by kernel_rfl) (by kernel_rfl) (fun _ _ _ h => h) (by rfl) hHeld ?_
      simp only [Act.put, List.setIfInBounds_toArray, List.set_cons_zero, List.set_cons_succ]
      refine held_skip (i := 30) rfl rfl (by kernel_rfl) (by kernel_rfl) (by kernel_rfl) (fun _ _ _ h => h) (by rfl) hHeld ?_
      simp only [Act.put, List.setIfInBounds_toArray, List.set_cons_zero, List.set_cons_succ]
      refine held_skip (i := 31) rfl rfl (by kernel_rfl) (by kernel_rfl) (by kernel_rfl) (fun _ _ _ h => h) (by rfl) hHeld ?_
      simp only [Act.put, List.setIfInBounds_toArray, List.set_cons_zero, List.set_cons_succ]
      refine held_skip (i := 32) rfl rfl (by kernel_rfl) (by kernel_rfl) (by kernel_rfl) (fun _ _ _ h => h) (by rfl) hHeld ?_
      simp only [Act.put, List.setIfInBounds_toArray, List.set_cons_zero, List.set_cons_succ]
      refine hT (i := 33) (v := ?_) rfl rfl hHeld ?_ ?_
      rotate_left
      ·rintro wh ⟨z0, z1⟩
       go_simp
       (try with_reducible rfl)
      simp only [Act.put, List.setIfInBounds_toArray, List.set_cons_zero, List.set_cons_succ]
      refine hT (i := 34) (v := ?_) rfl rfl hHeld ?_ ?_
      rotate_left
      ·rintro wh ⟨z0, z1⟩
       go_simp
       (try with_reducible rfl)
      simp only [Act.put, List.setIfInBounds_toArray, List.set_cons_zero, List.set_cons_succ]
      refine wpAnyH_done (by kernel_rfl) ?_ _
      have hbn : Below w.heap.size w wr.drew := hbr.trans (hB1.mono hbr.size)
      clear hB1 hn
      generalize wr.drew = wq at *
      go_wp2
      go_roundw
      case rel => exact ⟨0 + 1, by omega, by go_num, HN, hbn⟩
      case measure => (simp [intOf]; try omega)
     ·obtain ⟨m, hm⟩ : ∃ m, k = m + 1 := ⟨k - 1, by omega⟩
      have hml : m < l.length := by omega
      obtain ⟨z, hze⟩ : ∃ z, l[m].1 = z := ⟨_, rfl⟩
      have hfz := (HF.out _ (List.getElem_mem hml)).1
      rw [hze] at hfz
      obtain ⟨hz0, _⟩ := fldCells_at l m hml
      rw [hze] at hz0
      have az : wr.cell? ⟨b, o + m * 2, none⟩ = some (.string z) := hall _ _ hz0
      have hgz : (l.getD (k - 1) default).1 = z := by
       rw [hm, Nat.add_sub_cancel, List.getD_eq_getElem?_getD, List.getElem?_eq_getElem hml]; exact hze
      have hkz : decide (k = 0) = false := decide_eq_false (by omega)
      rw [hgz, hnm, decide_eq_true hy2, hkz] at hstep hbad
      have k0 : (0 : Int) < (k : Int) := by omega
      have hw1 : IntKind.i64.wrap ((k : Int) - 1) = (m : Int) := by rw [IntKind.wrap_i64]; omega
      have hI1 : (m : Int) < (l.length : Int) := by omega
      have hah := fun W => rahead_any z x W hfz
      obtain ⟨lt, hlt⟩ : ∃ lt, ltS z x = lt := ⟨_, rfl⟩
      rw [hlt] at hstep hbad
      simp only [hlt] at hah
      have HM := Lib.hid hm
      clear hnm hy2 hze hkz hall hz0 hgz hfz hfs hlt hm
      cases lt
      ·have HZ := hbad rfl
       clear hstep hbad
       go_upto_region 4 with fail
       refine wp_region_held_drew (S := (fun W => W.cell? ⟨b, o + k * 2, none⟩ = some (.string x) ∧ W.cell? ⟨b, o + k * 2 + 1, none⟩ = some (.string y) ∧ W.cell? ⟨b, o + m * 2, none⟩ = some (.string z))) (by kernel_rfl) ⟨a0, a1, az⟩ (fun hHeld => ?_)
       refine hT (i := 0) (v := ?_) rfl rfl hHeld ?_ ?_
       rotate_left
       ·rintro wh ⟨z0, z1, z2⟩
        go_simp
        (try with_reducible rfl)
       simp only [Act.put, List.setIfInBounds_toArray, List.set_cons_zero, List.set_cons_succ]
       refine hT (i := 1) (v := ?_) rfl rfl hHeld ?_ ?_
       rotate_left
       ·rintro wh ⟨z0, z1, z2⟩
        go_simp
        (try with_reducible rfl)
       simp only [Act.put, List.setIfInBounds_toArray, List.set_cons_zero, List.set_cons_succ]
       refine hT (i := 2) (v := ?_) rfl rfl hHeld ?_ ?_
       rotate_left
       ·rintro wh ⟨z0, z1, z2⟩
        go_simp
        (try with_reducible rfl)
       simp only [Act.put, List.setIfInBounds_toArray, List.set_cons_zero, List.set_cons_succ]
       refine hT (i := 3) (v := ?_) rfl rfl hHeld ?_ ?_
       rotate_left
       ·rintro wh ⟨z0, z1, z2⟩
        go_simp
        (try with_reducible rfl)
       simp only [Act.put, List.setIfInBounds_toArray, List.set_cons_zero, List.set_cons_succ]
       refine hT (i := 4) (v := ?_) rfl rfl hHeld ?_ ?_
       rotate_left
       ·rintro wh ⟨z0, z1, z2⟩
        go_simp
        (try with_reducible rfl)
       simp only [Act.put, List.setIfInBounds_toArray, List.set_cons_zero, List.set_cons_succ]
       refine held_call (i := 5) rfl (by kernel_rfl) (by rfl) (fun K hK => ?_)
       (go_simp; go_at_call 40; refine (hn _).mono ?_; rintro e w1 ⟨rfl, rfl⟩; have hB1 : Below wr.heap.size wr wr.drew := (Below.refl _ _).drew)
       refine hK.out _ _ ⟨keep_cell a0 hB1 hwb, keep_cell a1 hB1 hwb, keep_cell az hB1 hwb⟩ (fun hHeld => ?_)
       clear hK K
       (try simp only [Act.put, List.setIfInBounds_toArray, List.set_cons_zero, List.set_cons_succ])
       refine hT (i := 6) (v := ?_) rfl rfl hHeld ?_ ?_
       rotate_left
       ·rintro wh ⟨z0, z1, z2⟩
        go_simp
        (try with_reducible rfl)
       simp only [Act.put, List.setIfInBounds_toArray, List.set_cons_zero, List.set_cons_succ]
       refine hT (i := 7) (v := ?_) rfl rfl hHeld ?_ ?_
       rotate_left
       ·rintro wh ⟨z0, z1, z2⟩
        go_simp
        (try with_reducible rfl)
       simp only [Act.put, List.setIfInBounds_toArray, List.set_cons_zero, List.set_cons_succ]
       refine hT (i := 8) (v := ?_) rfl rfl hHeld ?_ ?_
       rotate_left
       ·rintro wh ⟨z0, z1, z2⟩
        go_simp
        (try with_reducible rfl)
       simp only [Act.put, List.setIfInBounds_toArray, List.set_cons_zero, List.set_cons_succ]
       refine hT (i := 9) (v := ?_) rfl rfl hHeld ?_ ?_
       rotate_left
       ·rintro wh ⟨z0, z1, z2⟩
        go_simp
        (try with_reducible rfl)
       simp only [Act.put, List.setIfInBounds_toArray, List.set_cons_zero, List.set_cons_succ]
       refine hT (i := 10) (v := ?_) rfl rfl hHeld ?_ ?_
       rotate_left
       ·rintro wh ⟨z0, z1, z2⟩
        go_simp
        (try with_reducible rfl)
       simp only [Act.put, List.setIfInBounds_toArray, List.set_cons_zero, List.set_cons_succ]
       refine hT (i := 11) (v := ?_) rfl rfl hHeld ?_ ?_
       rotate_left
       ·rintro wh ⟨z0, z1, z2⟩
        go_simp
        (try with_reducible rfl)
       simp only [Act.put, List.setIfInBounds_toArray, List.set_cons_zero, List.set_cons_succ]
       refine hT (i := 12) (v := ?_) rfl rfl hHeld ?_ ?_
       rotate_left
       ·rintro wh ⟨z0, z1, z2⟩
        go_simp
        (try with_reducible rfl)
       simp only [Act.put, List.setIfInBounds_toArray, List.set_cons_zero, List.set_cons_succ]
       refine hT (i := 13) (v := ?_) rfl rfl hHeld ?_ ?_
       rotate_left
       ·rintro wh ⟨z0, z1, z2⟩
        go_simp
        (try with_reducible rfl)
       simp only [Act.put, List.setIfInBounds_toArray, List.set_cons_zero, List.set_cons_succ]
       refine hT (i := 14) (v := ?_) rfl rfl hHeld ?_ ?_
       rotate_left
       ·rintro wh ⟨z0, z1, z2⟩
        go_simp
        (try with_reducible rfl)
       simp only [Act.put, List.setIfInBounds_toArray, List.set_cons_zero, List.set_cons_succ]
       refine hT (i := 15) (v := ?_) rfl rfl hHeld ?_ ?_
       rotate_left
       ·rintro wh ⟨z0, z1, z2⟩
        go_simp
        (try with_reducible rfl)
       simp only [Act.put, List.setIfInBounds_toArray, List.set_cons_zero, List.set_cons_succ]
       refine hT (i := 16) (v := ?_) rfl rfl hHeld ?_ ?_
       rotate_left
       ·rintro wh ⟨z0, z1, z2⟩
        go_simp
        (try with_reducible rfl)
       simp only [Act.put, List.setIfInBounds_toArray, List.set_cons_zero, List.set_cons_succ]
       refine hT (i := 17) (v := ?_) rfl rfl hHeld ?_ ?_
       rotate_left
       ·rintro wh ⟨z0, z1, z2⟩
        go_simp
        (try with_reducible rfl)
       simp only [Act.put, List.setIfInBounds_toArray, List.set_cons_zero, List.set_cons_succ]
       refine hT (i := 18) (v := ?_) rfl rfl hHeld ?_ ?_
       rotate_left
       ·rintro wh ⟨z0, z1, z2⟩
        go_simp
        (try with_reducible rfl)
       simp only [Act.put, List.setIfInBounds_toArray, List.set_cons_zero, List.set_cons_succ]
       refine hT (i := 19) (v := ?_) rfl rfl hHeld ?_ ?_
       rotate_left
       ·rintro wh ⟨z0, z1, z2⟩
        go_simp
        (try with_reducible rfl)
       simp only [Act.put, List.setIfInBounds_toArray, List.set_cons_zero, List.set_cons_succ]
       refine hT (i := 20) (v := ?_) rfl rfl hHeld ?_ ?_
       rotate_left
       ·rintro wh ⟨z0, z1, z2⟩
        go_simp
        (try with_reducible rfl)
       simp only [Act.put, List.setIfInBounds_toArray, List.set_cons_zero, List.set_cons_succ]
       refine hT (i := 21) (v := ?_) rfl rfl hHeld ?_ ?_
       rotate_left
       ·rintro wh ⟨z0, z1, z2⟩
        go_simp
        (try with_reducible rfl)
       simp only [Act.put, List.setIfInBounds_toArray, List.set_cons_zero, List.set_cons_succ]
       refine hT (i := 22) (v := ?_) rfl rfl hHeld ?_ ?_
       rotate_left
       ·rintro wh ⟨z0, z1, z2⟩
        go_simp
        (try with_reducible rfl)
       simp only [Act.put, List.setIfInBounds_toArray, List.set_cons_zero, List.set_cons_succ]
       refine hT (i := 23) (v := ?_) rfl rfl hHeld ?_ ?_
       rotate_left
       ·rintro wh ⟨z0, z1, z2⟩
        go_simp
        (try with_reducible rfl)
       simp only [Act.put, List.setIfInBounds_toArray, List.set_cons_zero, List.set_cons_succ]
       refine hT (i := 24) (v := ?_) rfl rfl hHeld ?_ ?_
       rotate_left
       ·rintro wh ⟨z0, z1, z2⟩
        go_simp
        (try with_reducible rfl)
       simp only [Act.put, List.setIfInBounds_toArray, List.set_cons_zero, List.set_cons_succ]
       refine hT (i := 25) (v := ?_) rfl rfl hHeld ?_ ?_
       rotate_left
       ·rintro wh ⟨z0, z1, z2⟩
        go_simp
        (try with_reducible rfl)
       simp only [Act.put, List.setIfInBounds_toArray, List.set_cons_zero, List.set_cons_succ]
       refine hT (i := 26) (v := ?_) rfl rfl hHeld ?_ ?_
       rotate_left
       ·rintro wh ⟨z0, z1, z2⟩
        go_simp
        (try with_reducible rfl)
       simp only [Act.put, List.setIfInBounds_toArray, List.set_cons_zero, List.set_cons_succ]
       refine hT (i := 27) (v := ?_) rfl rfl hHeld ?_ ?_
       rotate_left
       ·rintro wh ⟨z0, z1, z2⟩
        go_simp
        (try with_reducible rfl)
       simp only [Act.put, List.setIfInBounds_toArray, List.set_cons_zero, List.set_cons_succ]
       refine hT (i := 28) (v := ?_) rfl rfl hHeld ?_ ?_
       rotate_left
       ·rintro wh ⟨z0, z1, z2⟩
        go_simp
        (try with_reducible rfl)
       simp only [Act.put, List.setIfInBounds_toArray, List.set_cons_zero, List.set_cons_succ]
       refine hT (i := 29) (v := ?_) rfl rfl hHeld ?_ ?_
       rotate_left
       ·rintro wh ⟨z0, z1, z2⟩
        go_simp
        (try with_reducible rfl)
       simp only [Act.put, List.setIfInBounds_toArray, List.set_cons_zero, List.set_cons_succ]
       refine hT (i := 30) (v := ?_) rfl rfl hHeld ?_ ?_
       rotate_left
       ·rintro wh ⟨z0, z1, z2⟩
        go_simp
        (try with_reducible rfl)
       simp only [Act.put, List.setIfInBounds_toArray, List.set_cons_zero, List.set_cons_succ]
       refine held_call (i := 31) rfl (by kernel_rfl) (by rfl) (fun K hK => ?_)
       (go_simp; go_at_call 75; refine (hah _).mono ?_; rintro e w2 ⟨rfl, hb2⟩; have hB2 : Below wr.heap.size wr w2 := hB1.trans hb2)
       refine hK.out _ _ ⟨keep_cell a0 hB2 hwb, keep_cell a1 hB2 hwb, keep_cell az hB2 hwb⟩ (fun hHeld => ?_)
       clear hK K
       (try simp only [Act.put, List.setIfInBounds_toArray, List.set_cons_zero, List.set_cons_succ])
       refine hT (i := 32) (v := ?_) rfl rfl hHeld ?_ ?_
       rotate_left
       ·rintro wh ⟨z0, z1, z2⟩
        go_simp
        (try with_reducible rfl)
       simp only [Act.put, List.setIfInBounds_toArray, List.set_cons_zero, List.set_cons_succ]
       refine hT (i := 33) (v := ?_) rfl rfl hHeld ?_ ?_
       rotate_left
       ·rintro wh ⟨z0, z1, z2⟩
        go_simp
        (try with_reducible rfl)
       simp only [Act.put, List.setIfInBounds_toArray, List.set_cons_zero, List.set_cons_succ]
       refine hT (i := 34) (v := ?_) rfl rfl hHeld ?_ ?_
       rotate_left
       ·rintro wh ⟨z0, z1, z2⟩
        go_simp
        (try with_reducible rfl)
       simp only [Act.put, List.setIfInBounds_toArray, List.set_cons_zero, List.set_cons_succ]
       refine wpAnyH_done (by kernel_rfl) ?_ _
       have hbn : Below w.heap.size w w2 := hbr.trans (hB2.mono hbr.size)
       clear hB1 hB2 hb2 hn hah
       go_wp2
       go_ret
       exact ⟨by rw [HZ.out]; rfl, hbn⟩
      ·have HN := hstep rfl
       clear hstep hbad
       go_upto_region 4 with fail
       refine wp_region_held_drew (S := (fun W => W.cell? ⟨b, o + k * 2, none⟩ = some (.string x) ∧ W.cell? ⟨b, o + k * 2 + 1, none⟩ = some (.string y) ∧ W.cell? ⟨b, o + m * 2, none⟩ = some (.string z))) (by kernel_rfl) ⟨a0, a1, az⟩ (fun hHeld => ?_)
       refine hT (i := 0) (v := ?_) rfl rfl hHeld ?_ ?_
       rotate_left
       ·rintro wh ⟨z0, z1, z2⟩
        go_simp
        (try with_reducible rfl)
       simp only [Act.put, List.setIfInBounds_toArray, List.set_cons_zero, List.set_cons_succ]
       refine hT (i := 1) (v := ?_) rfl rfl hHeld ?_ ?_
       rotate_left
       ·rintro wh ⟨z0, z1, z2⟩
        go_simp
        (try with_reducible rfl)
       simp only [Act.put, List.setIfInBounds_toArray, List.set_cons_zero, List.set_cons_succ]
       refine hT (i := 2) (v := ?_) rfl rfl hHeld ?_ ?_
       rotate_left
       ·rintro wh ⟨z0, z1, z2⟩
        go_simp
        (try with_reducible rfl)
       simp only [Act.put, List.setIfInBounds_toArray, List.set_cons_zero, List.set_cons_succ]
       refine hT (i := 3) (v := ?_) rfl rfl hHeld ?_ ?_
       rotate_left
       ·rintro wh ⟨z0, z1, z2⟩
        go_simp
        (try with_reducible rfl)
       simp only [Act.put, List.setIfInBounds_toArray, List.set_cons_zero, List.set_cons_succ]
       refine hT (i := 4) (v := ?_) rfl rfl hHeld ?_ ?_
       rotate_left
       ·rintro wh ⟨z0, z1, z2⟩
        go_simp
        (try with_reducible rfl)
       simp only [Act.put, List.setIfInBounds_toArray, List.set_cons_zero, List.set_cons_succ]
       refine held_call (i := 5) rfl (by kernel_rfl) (by rfl) (fun K hK => ?_)
       (go_simp; go_at_call 40; refine (hn _).mono ?_; rintro e w1 ⟨rfl, rfl⟩; have hB1 : Below wr.heap.size wr wr.drew := (Below.refl _ _).drew)
       refine hK.out _ _ ⟨keep_cell a0 hB1 hwb, keep_cell a1 hB1 hwb, keep_cell az hB1 hwb⟩ (fun hHeld => ?_)
       clear hK K
       (try simp only [Act.put, List.setIfInBounds_toArray, List.set_cons_zero, List.set_cons_succ])
       refine hT (i := 6) (v := ?_) rfl rfl hHeld ?_ ?_
       rotate_left
       ·rintro wh ⟨z0, z1, z2⟩
        go_simp
        (try with_reducible rfl)
       simp only [Act.put, List.setIfInBounds_toArray, List.set_cons_zero, List.set_cons_succ]
       refine hT (i := 7) (v := ?_) rfl rfl hHeld ?_ ?_
       rotate_left
       ·rintro wh ⟨z0, z1, z2⟩
        go_simp
        (try with_reducible rfl)
       simp only [Act.put, List.setIfInBounds_toArray, List.set_cons_zero, List.set_cons_succ]
       refine hT (i := 8) (v := ?_) rfl rfl hHeld ?_ ?_
       rotate_left
       ·rintro wh ⟨z0, z1, z2⟩
        go_simp
        (try with_reducible rfl)
       simp only [Act.put, List.setIfInBounds_toArray, List.set_cons_zero, List.set_cons_succ]
       refine hT (i := 9) (v := ?_) rfl rfl hHeld ?_ ?_
       rotate_left
       ·rintro wh ⟨z0, z1, z2⟩
        go_simp
        (try with_reducible rfl)
       simp only [Act.put, List.setIfInBounds_toArray, List.set_cons_zero, List.set_cons_succ]
       refine hT (i := 10) (v := ?_) rfl rfl hHeld ?_ ?_
       rotate_left
       ·rintro wh ⟨z0, z1, z2⟩
        go_simp
        (try with_reducible rfl)
       simp only [Act.put, List.setIfInBounds_toArray, List.set_cons_zero, List.set_cons_succ]
       refine hT (i := 11) (v := ?_) rfl rfl hHeld ?_ ?_
       rotate_left
       ·rintro wh ⟨z0, z1, z2⟩
        go_simp
        (try with_reducible rfl)
       simp only [Act.put, List.setIfInBounds_toArray, List.set_cons_zero, List.set_cons_succ]
       refine hT (i := 12) (v := ?_) rfl rfl hHeld ?_ ?_
       rotate_left
       ·rintro wh ⟨z0, z1, z2⟩
        go_simp
        (try with_reducible rfl)
       simp only [Act.put, List.setIfInBounds_toArray, List.set_cons_zero, List.set_cons_succ]
       refine hT (i := 13) (v := ?_) rfl rfl hHeld ?_ ?_
       rotate_left
       ·rintro wh ⟨z0, z1, z2⟩
        go_simp
        (try with_reducible rfl)
       simp only [Act.put, List.setIfInBounds_toArray, List.set_cons_zero, List.set_cons_succ]
       refine hT (i := 14) (v := ?_) rfl rfl hHeld ?_ ?_
       rotate_left
       ·rintro wh ⟨z0, z1, z2⟩
        go_simp
        (try with_reducible rfl)
       simp only [Act.put, List.setIfInBounds_toArray, List.set_cons_zero, List.set_cons_succ]
       refine hT (i := 15) (v := ?_) rfl rfl hHeld ?_ ?_
       rotate_left
       ·rintro wh ⟨z0, z1, z2⟩
        go_simp
        (try with_reducible rfl)
       simp only [Act.put, List.setIfInBounds_toArray, List.set_cons_zero, List.set_cons_succ]
       refine hT (i := 16) (v := ?_) rfl rfl hHeld ?_ ?_
       rotate_left
       ·rintro wh ⟨z0, z1, z2⟩
        go_simp
        (try with_reducible rfl)
       simp only [Act.put, List.setIfInBounds_toArray, List.set_cons_zero, List.set_cons_succ]
       refine hT (i := 17) (v := ?_) rfl rfl hHeld ?_ ?_
       rotate_left
       ·rintro wh ⟨z0, z1, z2⟩
        go_simp
        (try with_reducible rfl)
       simp only [Act.put, List.setIfInBounds_toArray, List.set_cons_zero, List.set_cons_succ]
       refine hT (i := 18) (v := ?_) rfl rfl hHeld ?_ ?_
       rotate_left
       ·rintro wh ⟨z0, z1, z2⟩
        go_simp
        (try with_reducible rfl)
       simp only [Act.put, List.setIfInBounds_toArray, List.set_cons_zero, List.set_cons_succ]
       refine hT (i := 19) (v := ?_) rfl rfl hHeld ?_ ?_
       rotate_left
       ·rintro wh ⟨z0, z1, z2⟩
        go_simp
        (try with_reducible rfl)
       simp only [Act.put, List.setIfInBounds_toArray, List.set_cons_zero, List.set_cons_succ]
       refine hT (i := 20) (v := ?_) rfl rfl hHeld ?_ ?_
       rotate_left
       ·rintro wh ⟨z0, z1, z2⟩
        go_simp
        (try with_reducible rfl)
       simp only [Act.put, List.setIfInBounds_toArray, List.set_cons_zero, List.set_cons_succ]
       refine hT (i := 21) (v := ?_) rfl rfl hHeld ?_ ?_
       rotate_left
       ·rintro wh ⟨z0, z1, z2⟩
        go_simp
        (try with_reducible rfl)
       simp only [Act.put, List.setIfInBounds_toArray, List.set_cons_zero, List.set_cons_succ]
       refine hT (i := 22) (v := ?_) rfl rfl hHeld ?_ ?_
       rotate_left
       ·rintro wh ⟨z0, z1, z2⟩
        go_simp
        (try with_reducible rfl)
       simp only [Act.put, List.setIfInBounds_toArray, List.set_cons_zero, List.set_cons_succ]
       refine hT (i := 23) (v := ?_) rfl rfl hHeld ?_ ?_
       rotate_left
       ·rintro wh ⟨z0, z1, z2⟩
        go_simp
        (try with_reducible rfl)
       simp only [Act.put, List.setIfInBounds_toArray, List.set_cons_zero, List.set_cons_succ]
       refine hT (i := 24) (v := ?_) rfl rfl hHeld ?_ ?_
       rotate_left
       ·rintro wh ⟨z0, z1, z2⟩
        go_simp
        (try with_reducible rfl)
       simp only [Act.put, List.setIfInBounds_toArray, List.set_cons_zero, List.set_cons_succ]
       refine hT (i := 25) (v := ?_) rfl rfl hHeld ?_ ?_
       rotate_left
       ·rintro wh ⟨z0, z1, z2⟩
        go_simp
        (try with_reducible rfl)
       simp only [Act.put, List.setIfInBounds_toArray, List.set_cons_zero, List.set_cons_succ]
       refine hT (i := 26) (v := ?_) rfl rfl hHeld ?_ ?_
       rotate_left
       ·rintro wh ⟨z0, z1, z2⟩
        go_simp
        (try with_reducible rfl)
       simp only [Act.put, List.setIfInBounds_toArray, List.set_cons_zero, List.set_cons_succ]
       refine hT (i := 27) (v := ?_) rfl rfl hHeld ?_ ?_
       rotate_left
       ·rintro wh ⟨z0, z1, z2⟩
        go_simp
        (try with_reducible rfl)
       simp only [Act.put, List.setIfInBounds_toArray, List.set_cons_zero, List.set_cons_succ]
       refine hT (i := 28) (v := ?_) rfl rfl hHeld ?_ ?_
       rotate_left
       ·rintro wh ⟨z0, z1, z2⟩
        go_simp
        (try with_reducible rfl)
       simp only [Act.put, List.setIfInBounds_toArray, List.set_cons_zero, List.set_cons_succ]
       refine hT (i := 29) (v := ?_) rfl rfl hHeld ?_ ?_
       rotate_left
       ·rintro wh ⟨z0, z1, z2⟩
        go_simp
        (try with_reducible rfl)
       simp only [Act.put, List.setIfInBounds_toArray, List.set_cons_zero, List.set_cons_succ]
       refine hT (i := 30) (v := ?_) rfl rfl hHeld ?_ ?_
       rotate_left
       ·rintro wh ⟨z0, z1, z2⟩
        go_simp
        (try with_reducible rfl)
       simp only [Act.put, List.setIfInBounds_toArray, List.set_cons_zero, List.set_cons_succ]
       refine held_call (i := 31) rfl (by kernel_rfl) (by rfl) (fun K hK => ?_)
       (go_simp; go_at_call 75; refine (hah _).mono ?_; rintro e w2 ⟨rfl, hb2⟩; have hB2 : Below wr.heap.size wr w2 := hB1.trans hb2)
       refine hK.out _ _ ⟨keep_cell a0 hB2 hwb, keep_cell a1 hB2 hwb, keep_cell az hB2 hwb⟩ (fun hHeld => ?_)
       clear hK K
       (try simp only [Act.put, List.setIfInBounds_toArray, List.set_cons_zero, List.set_cons_succ])
       refine hT (i := 32) (v := ?_) rfl rfl hHeld ?_ ?_
       rotate_left
       ·rintro wh ⟨z0, z1, z2⟩
        go_simp
        (try with_reducible rfl)
       simp only [Act.put, List.setIfInBounds_toArray, List.set_cons_zero, List.set_cons_succ]
       refine hT (i := 33) (v := ?_) rfl rfl hHeld ?_ ?_
       rotate_left
       ·rintro wh ⟨z0, z1, z2⟩
        go_simp
        (try with_reducible rfl)
       simp only [Act.put, List.setIfInBounds_toArray, List.set_cons_zero, List.set_cons_succ]
       refine hT (i := 34) (v := ?_) rfl rfl hHeld ?_ ?_
       rotate_left
       ·rintro wh ⟨z0, z1, z2⟩
        go_simp
        (try with_reducible rfl)
       simp only [Act.put, List.setIfInBounds_toArray, List.set_cons_zero, List.set_cons_succ]
       refine wpAnyH_done (by kernel_rfl) ?_ _
       have hbn : Below w.heap.size w w2 := hbr.trans (hB2.mono hbr.size)
       clear hB1 hB2 hb2 hn hah
       go_wp2
       go_roundw
       case rel => exact ⟨k + 1, by omega, by go_num, HN, hbn⟩
       case measure => (simp [intOf]; try omega)
    ·have g1 : (200 : Int) < (y.size : Int) := by omega
     have HZ := hbad (by rw [hnm, decide_eq_false hy2]; rfl)
     clear hstep hbad hall hnm hy2 hfs
     go_upto_region 4 with fail
     refine wp_region_held_drew (S := (fun W => W.cell? ⟨b, o + k * 2, none⟩ = some (.string x) ∧ W.cell? ⟨b, o + k * 2 + 1, none⟩ = some (.string y))) (by kernel_rfl) ⟨a0, a1⟩ (fun hHeld => ?_)
     refine hT (i := 0) (v := ?_) rfl rfl hHeld ?_ ?_
     rotate_left
     ·rintro wh ⟨z0, z1⟩
      go_simp
      (try with_reducible rfl)
     simp only [Act.put, List.setIfInBounds_toArray, List.set_cons_zero, List.set_cons_succ]
     refine hT (i := 1) (v := ?_) rfl rfl hHeld ?_ ?_
     rotate_left
     ·rintro wh ⟨z0, z1⟩
      go_simp
      (try with_reducible rfl)
     simp only [Act.put, List.setIfInBounds_toArray, List.set_cons_zero, List.set_cons_succ]
     refine hT (i := 2) (v := ?_) rfl rfl hHeld ?_ ?_
     rotate_left
     ·rintro wh ⟨z0, z1⟩
      go_simp
      (try with_reducible rfl)
     simp only [Act.put, List.setIfInBounds_toArray, List.set_cons_zero, List.set_cons_succ]
     refine hT (i := 3) (v := ?_) rfl rfl hHeld ?_ ?_
     rotate_left
     ·rintro wh ⟨z0, z1⟩
      go_simp
      (try with_reducible rfl)
     simp only [Act.put, List.setIfInBounds_toArray, List.set_cons_zero, List.set_cons_succ]
     refine hT (i := 4) (v := ?_) rfl rfl hHeld ?_ ?_
     rotate_left
     ·rintro wh ⟨z0, z1⟩
      go_simp
      (try with_reducible rfl)
     simp only [Act.put, List.setIfInBounds_toArray, List.set_cons_zero, List.set_cons_succ]
     refine held_call (i := 5) rfl (by kernel_rfl) (by rfl) (fun K hK => ?_)
     (go_simp; go_at_call 40; refine (hn _).mono ?_; rintro e w1 ⟨rfl, rfl⟩; have hB1 : Below wr.heap.size wr wr.drew := (Below.refl _ _).drew)
     refine hK.out _ _ ⟨keep_cell a0 hB1 hwb, keep_cell a1 hB1 hwb⟩ (fun hHeld => ?_)
     clear hK K
     (try simp only [Act.put, List.setIfInBounds_toArray, List.set_cons_zero, List.set_cons_succ])
     refine hT (i := 6) (v := ?_) rfl rfl hHeld ?_ ?_
     rotate_left
     ·rintro wh ⟨z0, z1⟩
      go_simp
      (try with_reducible rfl)
     simp only [Act.put, List.setIfInBounds_toArray, List.set_cons_zero, List.set_cons_succ]
     refine hT (i := 7) (v := ?_) rfl rfl hHeld ?_ ?_
     rotate_left
     ·rintro wh ⟨z0, z1⟩
      go_simp
      (try with_reducible rfl)
     simp only [Act.put, List.setIfInBounds_toArray, List.set_cons_zero, List.set_cons_succ]
     refine hT (i := 8) (v := ?_) rfl rfl hHeld ?_ ?_
     rotate_left
     ·rintro wh ⟨z0, z1⟩
      go_simp
      (try with_reducible rfl)
     simp only [Act.put, List.setIfInBounds_toArray, List.set_cons_zero, List.set_cons_succ]
     refine hT (i := 9) (v := ?_) rfl rfl hHeld ?_ ?_
     rotate_left
     ·rintro wh ⟨z0, z1⟩
      go_simp
      (try with_reducible rfl)
     simp only [Act.put, List.setIfInBounds_toArray, List.set_cons_zero, List.set_cons_succ]
     refine hT (i := 10) (v := ?_) rfl rfl hHeld ?_ ?_
     rotate_left
     ·rintro wh ⟨z0, z1⟩
      go_simp
      (try with_reducible rfl)
     simp only [Act.put, List.setIfInBounds_toArray, List.set_cons_zero, List.set_cons_succ]
     refine hT (i := 11) (v := ?_) rfl rfl hHeld ?_ ?_
     rotate_left
     ·rintro wh ⟨z0, z1⟩
      go_simp
      (try with_reducible rfl)
     simp only [Act.put, List.setIfInBounds_toArray, List.set_cons_zero, List.set_cons_succ]
     refine hT (i := 12) (v := ?_) rfl rfl hHeld ?_ ?_
     rotate_left
     ·rintro wh ⟨z0, z1⟩
      go_simp
      (try with_reducible rfl)
     simp only [Act.put, List.setIfInBounds_toArray, List.set_cons_zero, List.set_cons_succ]
     refine hT (i := 13) (v := ?_) rfl rfl hHeld ?_ ?_
     rotate_left
     ·rintro wh ⟨z0, z1⟩
      go_simp
      (try with_reducible rfl)
     simp only [Act.put, List.setIfInBounds_toArray, List.set_cons_zero, List.set_cons_succ]
     refine hT (i := 14) (v := ?_) rfl rfl hHeld ?_ ?_
     rotate_left
     ·rintro wh ⟨z0, z1⟩
      go_simp
      (try with_reducible rfl)
     simp only [Act.put, List.setIfInBounds_toArray, List.set_cons_zero, List.set_cons_succ]
     refine hT (i := 15) (v := ?_) rfl rfl hHeld ?_ ?_
     rotate_left
     ·rintro wh ⟨z0, z1⟩
      go_simp
      (try with_reducible rfl)
     simp only [Act.put, List.setIfInBounds_toArray, List.set_cons_zero, List.set_cons_succ]
     refine hT (i := 16) (v := ?_) rfl rfl hHeld ?_ ?_
     rotate_left
     ·rintro wh ⟨z0, z1⟩
      go_simp
      (try with_reducible rfl)
     simp only [Act.put, List.setIfInBounds_toArray, List.set_cons_zero, List.set_cons_succ]
     refine held_skip (i := 17) rfl rfl (by kernel_rfl) (by kernel_rfl) (by kernel_rfl) (fun _ _ _ h => h) (by rfl) hHeld ?_
     simp only [Act.put, List.setIfInBounds_toArray, List.set_cons_zero, List.set_cons_succ]
     refine held_skip (i := 18) rfl rfl (by kernel_rfl) (by kernel_rfl) (by kernel_rfl) (fun _ _ _ h => h) (by rfl) hHeld ?_
     simp only [Act.put, List.setIfInBounds_toArray, List.set_cons_zero, List.set_cons_succ]
     refine held_skip (i := 19) rfl rfl (by kernel_rfl) (by kernel_rfl) (by kernel_rfl) (fun _ _ _ h => h) (by rfl) hHeld ?_
     simp only [Act.put, List.setIfInBounds_toArray, List.set_cons_zero, List.set_cons_succ]
     refine held_skip (i := 20) rfl rfl (by kernel_rfl) (by kernel_rfl) (by kernel_rfl) (fun _ _ _ h => h) (by rfl) hHeld ?_
     simp only [Act.put, List.setIfInBounds_toArray, List.set_cons_zero, List.set_cons_succ]
     refine held_skip (i := 21) rfl rfl (by kernel_rfl) (by kernel_rfl) (by kernel_rfl) (fun _ _ _ h => h) (by rfl) hHeld ?_
     simp only [Act.put, List.setIfInBounds_toArray, List.set_cons_zero, List.set_cons_succ]
     refine held_skip (i := 22) rfl rfl (by kernel_rfl) (by kernel_rfl) (by kernel_rfl) (fun _ _ _ h => h) (by rfl) hHeld ?_
     simp only [Act.put, List.setIfInBounds_toArray, List.set_cons_zero, List.set_cons_succ]
     refine held_skip (i := 23) rfl rfl (by kernel_rfl) (by kernel_rfl) (by kernel_rfl) (fun _ _ _ h => h) (by rfl) hHeld ?_
     simp only [Act.put, List.setIfInBounds_toArray, List.set_cons_zero, List.set_cons_succ]
     refine held_skip (i := 24) rfl rfl (by kernel_rfl) (by kernel_rfl) (by kernel_rfl) (fun _ _ _ h => h) (by rfl) hHeld ?_
     simp only [Act.put, List.setIfInBounds_toArray, List.set_cons_zero, List.set_cons_succ]
     refine held_skip (i := 25) rfl rfl (by kernel_rfl) (by kernel_rfl) (by kernel_rfl) (fun _ _ _ h => h) (by rfl) hHeld ?_
     simp only [Act.put, List.setIfInBounds_toArray, List.set_cons_zero, List.set_cons_succ]
     refine held_skip (i := 26) rfl rfl (by kernel_rfl) (by kernel_rfl) (by kernel_rfl) (fun _ _ _ h => h) (by rfl) hHeld ?_
     simp only [Act.put, List.setIfInBounds_toArray, List.set_cons_zero, List.set_cons_succ]
     refine held_skip (i := 27) rfl rfl (by kernel_rfl) (by kernel_rfl) (by kernel_rfl) (fun _ _ _ h => h) (by rfl) hHeld ?_
     simp only [Act.put, List.setIfInBounds_toArray, List.set_cons_zero, List.set_cons_succ]
     refine held_skip (i := 28) rfl rfl (by kernel_rfl) (by kernel_rfl) (by kernel_rfl) (fun _ _ _ h => h) (by rfl) hHeld ?_
     simp only [Act.put, List.setIfInBounds_toArray, List.set_cons_zero, List.set_cons_succ]
     refine held_skip (i := 29) rfl rfl (by kernel_rfl) (by kernel_rfl) (by kernel_rfl) (fun _ _ _ h => h) (by rfl) hHeld ?_
     simp only [Act.put, List.setIfInBounds_toArray, List.set_cons_zero, List.set_cons_succ]
     refine held_skip (i := 30) rfl rfl (by kernel_rfl) (by kernel_rfl) (by kernel_rfl) (fun _ _ _ h => h) (by rfl) hHeld ?_
     simp only [Act.put, List.setIfInBounds_toArray, List.set_cons_zero, List.set_cons_succ]
     refine held_skip (i := 31) rfl rfl (by kernel_rfl) (by kernel_rfl) (by kernel_rfl) (fun _ _ _ h => h) (by rfl) hHeld ?_
     simp only [Act.put, List.setIfInBounds_toArray, List.set_cons_zero, List.set_cons_succ]
     refine held_skip (i := 32) rfl rfl (by kernel_rfl) (by kernel_rfl) (by kernel_rfl) (fun _ _ _ h => h) (by rfl) hHeld ?_
     simp only [Act.put, List.setIfInBounds_toArray, List.set_cons_zero, List.set_cons_succ]
     refine held_skip (i := 33) rfl rfl (by kernel_rfl) (by kernel_rfl) (by kernel_rfl) (fun _ _ _ h => h) (by rfl) hHeld ?_
     simp only [Act.put, List.setIfInBounds_toArray, List.set_cons_zero, List.set_cons_succ]
     refine hT (i := 34) (v := ?_) rfl rfl hHeld ?_ ?_
     rotate_left
     ·rintro wh ⟨z0, z1⟩
      go_simp
      (try with_reducible rfl)
     simp only [Act.put, List.setIfInBounds_toArray, List.set_cons_zero, List.set_cons_succ]
     refine wpAnyH_done (by kernel_rfl) ?_ _
     have hbn : Below w.heap.size w wr.drew := hbr.trans (hB1.mono hbr.size)
     clear hB1 hn
     generalize wr.drew = wq at *
     go_wp2
     go_ret
     exact ⟨by rw [HZ.out]; rfl, hbn⟩
  ·obtain rfl : k = l.length := by omega
   have HG : Hid (rightF l = decide (l.length ≤ 8)) := rightF_good HT.out
   clear HT
   by_cases h8 : l.length ≤ 8
   ·have h8' : ((l.length : Int) ≤ 8) := by omega
    go_wp2
    go_ret
    exact ⟨by rw [HG.out]; simp; omega, hbr⟩
   ·have h8' : (8 : Int) < (l.length : Int) := by omega
    go_wp2
    go_ret
    exact ⟨by rw [HG.out]; simp; omega, hbr⟩
end Go.Proofs.YtipnhpfpppblhaaGreat
/- lychgateref08.named, by, when: contracts. -/
namespace Go.Proofs.YtipnhpfpppblhaaGreat
open Go.RowKit
/-! ### plain steps -/
def okUp {α : Type} (nm : α → ByteArray) (p : α → Bool) (l : List α) (k : Nat) : Prop :=
 (∀ i (h : i < l.length), i < k → p l[i] = true) ∧ ∀ i j (hi : i < l.length) (_ : j < l.length), j < i → i < k → nm l[j] ≠ nm l[i]
theorem okUp_zero {α : Type} {nm : α → ByteArray} {p : α → Bool} {l : List α} : okUp nm p l 0 := ⟨fun _ _ h => absurd h (Nat.not_lt_zero _), fun _ _ _ _ _ h => absurd h (Nat.not_lt_zero _)⟩
theorem okUp_succ {α : Type} {nm : α → ByteArray} {p : α → Bool} {l : List α} {k : Nat} (h : okUp nm p l k) (hk : k < l.length) (h1 : ∀ j (_ : j < l.length), j < k → nm l[j] ≠ nm l[k]) (h2 : p l[k] = true) : okUp nm p l (k + 1) := by
 refine ⟨fun i hi h' => ?_, fun i j hi hj hji h' => ?_⟩
 ·rcases Nat.lt_or_ge i k with h'' | h''
  ·exact h.1 i hi h''
  ·obtain rfl : i = k := by omega
   exact h2
 ·rcases Nat.lt_or_ge i k with h'' | h''
  ·exact h.2 i j hi hj hji h''
  ·obtain rfl : i = k := by omega
   exact h1 j hj hji
def okAll {α : Type} (nm : α → ByteArray) (p : α → Bool) (l : List α) : Bool := decide ((l.map nm).Nodup) && l.all p
theorem okUp_all {α : Type} {nm : α → ByteArray} {p : α → Bool} {l : List α} (h : okUp nm p l l.length) : okAll nm p l = true := by
 unfold okAll
 rw [Bool.and_eq_true, decide_eq_true_iff, List.all_eq_true]
 refine ⟨?_, fun x hx => ?_⟩
 ·rw [List.nodup_iff_pairwise_ne, List.pairwise_iff_getElem]
  intro i j hi hj hij
  rw [List.length_map] at hi hj
  rw [List.getElem_map, List.getElem_map]
  exact h.2 j i hj hi hij hj
 ·obtain ⟨i, hi, rfl⟩ := List.mem_iff_getElem.1 hx
  exact h.1 i hi hi
theorem okAll_bad {α : Type} {nm : α → ByteArray} {p : α → Bool} {l : List α} {k : Nat} (hk : k < l.length) (h : p l[k] = false) : okAll nm p l = false := by
 unfold okAll
 rw [Bool.and_eq_false_iff]
 right
 rw [List.all_eq_false]
 exact ⟨_, List.getElem_mem hk, by rw [h]; decide⟩
theorem okAll_twice {α : Type} {nm : α → ByteArray} {p : α → Bool} {l : List α} {j k : Nat} (hj : j < l.length) (hk : k < l.length) (hjk : j < k) (h : nm l[j] = nm l[k]) : okAll nm p l = false := by
 unfold okAll
 rw [Bool.and_eq_false_iff]
 left
 rw [decide_eq_false_iff_not]
 intro hn
 rw [List.nodup_iff_pairwise_ne, List.pairwise_iff_getElem] at hn
 exact hn j k (by rw [List.length_map]; exact hj) (by rw [List.length_map]; exact hk) hjk (by rw [List.getElem_map, List.getElem_map]; exact h)
theorem namedP_eq (l : List Nmd) : namedP l = okAll (·.1) (fun x => nameL (B x.1) && rightL x.2.1) l := rfl
theorem byP_eq (l : List ByteArray) : byP l = (okAll id (fun x => nameL (B x)) l && decide (l.length ≤ 8)) := by unfold byP okAll; rw [List.map_id]
set_option maxHeartbeats 1600000 in
set_option maxRecDepth 100000 in
theorem named8_any (l : List Nmd) (v : Value) (w : World) (hv : NmdsAt w v l) (hw : NmdWide l) :
  Calls Tryz.prog 42 #[v] w fun e w' => e = .returned (.bool (namedP l)) ∧ Below w.heap.size w w' := by
 obtain ⟨hl, _, hsz⟩ := hw
 rw [namedP_eq]
 obtain ⟨a, c, rfl, hc, hr⟩ := RdAt.shape hv
 have HR := Lib.hid hr
 have HSZ := Lib.hid hsz
 have hl63 : l.length ≤ 9223372036854775807 := by unfold maxLen at hl; omega
 clear hr hv hl hsz
 go_enter Tryz.func42, Tryz.ntmps42
 go_wp2
 go_loopw [3] (fun i wr => ∃ k : Nat, i = .int .i64 k ∧ k ≤ l.length ∧ Hid (okUp (·.1) (fun x => nameL (B x.1) && rightL x.2.1) l k) ∧ Below w.heap.size w wr) (fun i _ => l.length - (intOf i).toNat)
 case atStart => exact ⟨0, rfl, Nat.zero_le _, Lib.hid okUp_zero, Below.refl _ _⟩
 case round =>
  obtain ⟨k, rfl, hk, HT, hbr⟩ := hrel
  by_cases hkl : k < l.length
  ·obtain ⟨b, o, rfl, hb, hcell⟩ := HR.out (by omega)
   have HCELL := Lib.hid hcell
   have hstep := okUp_succ HT.out hkl
   have hbad := okAll_bad (nm := fun x : Nmd => x.1) (p := fun x : Nmd => nameL (B x.1) && rightL x.2.1) hkl
   have htw := fun j hj hjk => okAll_twice (nm := fun x : Nmd => x.1) (p := fun x : Nmd => nameL (B x.1) && rightL x.2.1) (j := j) hj hkl hjk
   have hxs := HSZ.out _ (List.getElem_mem hkl)
   have HC := nmdCells_at l k hkl
   obtain ⟨x, hx⟩ : ∃ x, l[k] = x := ⟨_, rfl⟩
   rw [hx] at HC hstep hbad hxs
   simp only [hx] at htw
   have HQ : Hid (∀ W, Below w.heap.size w W → W.cell? ⟨b, o + k * 3, none⟩ = some (.string x.1) ∧ W.cell? ⟨b, o + k * 3 + 1, none⟩ = some (.int .i64 x.2.1) ∧ W.cell? ⟨b, o + k * 3 + 2, none⟩ = some (.int .u32 x.2.2)) := Lib.hid (fun W hW =>
    have q : ∀ i v, (nmdC x)[i]? = some v → W.cell? ⟨b, o + k * 3 + i, none⟩ = some v := fun i v hi => keep_cell (by have := hcell _ _ (HC i v hi); rwa [← Nat.add_assoc] at this) hW hb
    ⟨q 0 _ rfl, q 1 _ rfl, q 2 _ rfl⟩)
   have HST := Lib.hid hstep
   have HBAD := Lib.hid hbad
   have HTW := Lib.hid htw
   have HBR := Lib.hid hbr
   have HXS := Lib.hid hxs
   clear hcell HC hstep hbad htw hx hbr hxs HT
   go_wp2
   obtain ⟨wo, rfl⟩ : ∃ z, z = wr := ⟨_, rfl⟩
   go_loopw [4] (fun i wi => ∃ m : Nat, i = .int .i64 m ∧ m ≤ k ∧ Hid (∀ j (_ : j < l.length), j < m → l[j].1 ≠ x.1) ∧ Below wo.heap.size wo wi) (fun i _ => k - (intOf i).toNat)
   case atStart => exact ⟨0, rfl, Nat.zero_le _, Lib.hid (fun _ _ h => absurd h (Nat.not_lt_zero _)), Below.refl _ _⟩
   case round =>
    obtain ⟨m, rfl, hm, HN, hbi⟩ := hrel
    have hbw := HBR.out.trans (hbi.mono HBR.out.size)
    by_cases hmk : m < k
    ·have hml : m < l.length := by omega
     have c0 := (HQ.out _ hbw).1
     have HCM := nmdCells_at l m hml
     obtain ⟨y, hy⟩ : ∃ y, l[m] = y := ⟨_, rfl⟩
     rw [hy] at HCM
     have d0 : wr.cell? ⟨b, o + m * 3, none⟩ = some (.string y.1) := keep_cell (HCELL.out _ _ (HCM 0 _ rfl)) hbw hb
     have HY := Lib.hid hy
     clear HCM hy
     by_cases hxy : y.1 = x.1
     ·have hbq : (y.1.toList == x.1.toList) = true := bytes_eq_iff.2 hxy
      have HF : Hid (okAll (fun x : Nmd => x.1) (fun x => nameL (B x.1) && rightL x.2.1) l = false) := Lib.hid (HTW.out m hml hmk (by rw [HY.out]; exact hxy))
      clear hxy
      go_wp2
      go_quiet (fail)
      have hb2 : Below w.heap.size w (wr.drewN nq) := bl_drewN hbw nq
      generalize wr.drewN nq = wq at *
      go_wp2
      go_ret
      exact ⟨by rw [HF.out]; rfl, hb2⟩
     ·have hbq : (y.1.toList == x.1.toList) = false := by rw [bytes_beq]; exact decide_eq_false hxy
      have HN' : Hid (∀ j (_ : j < l.length), j < m + 1 → l[j].1 ≠ x.1) := Lib.hid (fun j hj h => by
       rcases Nat.lt_or_ge j m with h' | h'
       ·exact HN.out j hj h'
       ·obtain rfl : j = m := by omega
        rw [HY.out]; exact hxy)
      clear hxy
      go_wp2
      go_quiet (fail)
      have hb2 : Below wo.heap.size wo (wr.drewN nq) := bl_drewN hbi nq
      generalize wr.drewN nq = wq at *
      go_wp2
      go_roundw
      case rel => exact ⟨m + 1, by go_num, by omega, HN', hb2⟩
      case measure => (simp [intOf]; try omega)
    ·obtain rfl : m = k := by omega
     have kn : ∀ W, Calls Tryz.prog 40 #[.string x.1] W fun e w' => e = .returned (.bool (nameL (B x.1))) ∧ w' = W := fun W => (refName.name_any x.1 W HXS.out).mono (by rintro e w' ⟨h1, h2⟩; exact ⟨h1, h2.symm⟩)
     have kr := rright_any x.2.1 x.2.2
     obtain ⟨c0, c1, c2⟩ := HQ.out _ hbw
     have HBW := Lib.hid hbw
     clear hbw hbi
     cases hnm : nameL (B x.1)
     ·rw [hnm] at kn
      have HF : Hid (okAll (fun x : Nmd => x.1) (fun x => nameL (B x.1) && rightL x.2.1) l = false) := Lib.hid (HBAD.out (by rw [hnm]; rfl))
      clear hnm
      go_wp2_with fail
      refine (kn _).mono ?_
      rintro e w2 ⟨rfl, rfl⟩
      go_wp2
      go_ret
      exact ⟨by rw [HF.out]; rfl, HBW.out⟩
     ·rw [hnm] at kn
      cases hrl : rightL x.2.1
      ·rw [hrl] at kr
       have HF : Hid (okAll (fun x : Nmd => x.1) (fun x => nameL (B x.1) && rightL x.2.1) l = false) := Lib.hid (HBAD.out (by rw [hnm, hrl]; rfl))
       clear hnm hrl
       go_wp2_with fail
       refine (kn _).mono ?_
       rintro e w2 ⟨rfl, rfl⟩
       go_wp2_with fail
       refine (kr _).mono ?_
       rintro e w3 ⟨rfl, hb3⟩
       have HB3 := Lib.hid (HBW.out.trans (hb3.mono HBW.out.size))
       clear hb3 c0 c1 c2
       go_wp2
       go_ret
       exact ⟨by rw [HF.out]; rfl, HB3.out⟩
      ·rw [hrl] at kr
       have HN' := Lib.hid (HST.out (fun j hj h => HN.out j hj h) (by rw [hnm, hrl]; rfl))
       clear hnm hrl
       go_wp2_with fail
       refine (kn _).mono ?_
       rintro e w2 ⟨rfl, rfl⟩
       go_wp2_with fail
       refine (kr _).mono ?_
       rintro e w3 ⟨rfl, hb3⟩
       have HB3 := Lib.hid (HBW.out.trans (hb3.mono HBW.out.size))
       clear hb3 c0 c1 c2
       go_wp2
       go_roundw
       case rel => exact ⟨m + 1, by go_num, by omega, HN', HB3.out⟩
       case measure => (simp [intOf]; try omega)
  ·obtain rfl : k = l.length := by omega
   have HF : Hid (okAll (fun x : Nmd => x.1) (fun x => nameL (B x.1) && rightL x.2.1) l = true) := Lib.hid (okUp_all HT.out)
   clear HT
   go_wp2
   go_ret
   exact ⟨by rw [HF.out]; rfl, hbr⟩
end Go.Proofs.YtipnhpfpppblhaaGreat
/- What a pattern says: a tree, and the texts of a tree; the builder's states say the same. No program in sight. -/
namespace Go.Proofs.YtipnhpfpppblhaaGreat
inductive Re where
 | no
 | eps
 | set (S : Nat → Bool)
 | cat (a b : Re)
 | alt (a b : Re)
 | star (a : Re)
 | plus (a : Re)
 | opt (a : Re)
inductive Lr : Re → List Nat → Prop
 | eps : Lr .eps []
 | set {S : Nat → Bool} {c : Nat} : S c = true → Lr (.set S) [c]
 | cat {a b : Re} {x y : List Nat} : Lr a x → Lr b y → Lr (.cat a b) (x ++ y)
 | altl {a b : Re} {x : List Nat} : Lr a x → Lr (.alt a b) x
 | altr {a b : Re} {x : List Nat} : Lr b x → Lr (.alt a b) x
 | star0 {a : Re} : Lr (.star a) []
 | star1 {a : Re} {x y : List Nat} : Lr a x → Lr (.star a) y → Lr (.star a) (x ++ y)
 | plus {a : Re} {x y : List Nat} : Lr a x → Lr (.star a) y → Lr (.plus a) (x ++ y)
 | opt0 {a : Re} : Lr (.opt a) []
 | opt1 {a : Re} {x : List Nat} : Lr a x → Lr (.opt a) x
inductive Pa (sts : List St) : Nat → List Nat → Nat → Nat → Prop
 | refl (k : Nat) : Pa sts k [] k 0
 | free {j f k n : Nat} {cs : List Nat} {x : St} : sts[j]? = some x → f ∈ x.free → Pa sts f cs k n → Pa sts j cs k (n + 1)
 | byte {j k c n : Nat} {cs : List Nat} {x : St} : sts[j]? = some x → goB x c = true → Pa sts x.next cs k n → Pa sts j (c :: cs) k (n + 1)
def Shut (sts : List St) (R : Nat → Prop) : Prop := ∀ k, R k → ∀ x, sts[k]? = some x → (∀ g ∈ x.free, R g) ∧ (x.set.isSome = true → R x.next)
structure Frg (sts : List St) (lo hi f t : Nat) (a : Re) : Prop where
 f0 : lo ≤ f
 f1 : f < hi
 t0 : lo ≤ t
 t1 : t < hi
 hl : hi ≤ sts.length
 shut : Shut sts (fun k => lo ≤ k ∧ k < hi)
 sink : sts[t]? = some ⟨none, 0, []⟩
 noin : ∀ k, lo ≤ k → k < hi → ∀ x, sts[k]? = some x → (∀ g ∈ x.free, g ≠ f) ∧ (x.set.isSome = true → x.next ≠ f)
 lang : ∀ cs, (∃ n, Pa sts f cs t n) ↔ Lr a cs
def nd : St := ⟨none, 0, []⟩
end Go.Proofs.YtipnhpfpppblhaaGreat
/- The reference's ends, plainly: of each tree the places at which a text of it may end. No program in sight. -/
namespace Go.Proofs.YtipnhpfpppblhaaGreat
def sl (B : List Nat) (i j : Nat) : List Nat := (B.drop i).take (j - i)
def En (B : List Nat) (a : Re) (X : Nat → Prop) (j : Nat) : Prop := j ≤ B.length ∧ ∃ i, i ≤ j ∧ X i ∧ Lr a (sl B i j)
def Ei (B : List Nat) (a : Re) (X : Nat → Prop) : Nat → Nat → Prop
 | 0, j => j ≤ B.length ∧ X j
 | m + 1, j => En B a (Ei B a X m) j
end Go.Proofs.YtipnhpfpppblhaaGreat
/- The reference's tree in memory: a node has 258 cells. -/
namespace Go.Proofs.YtipnhpfpppblhaaGreat
open Go.RowKit
def boolC (S : Nat → Bool) : List Value := (List.range 256).map fun c => .bool (S c)
def nodeC (k : Int) (S : Nat → Bool) (kv : Value) : List Value := .int .i64 k :: (boolC S ++ [kv])
theorem boolC_len (S : Nat → Bool) : (boolC S).length = 256 := by unfold boolC; simp
theorem nodeC_len (k : Int) (S : Nat → Bool) (kv : Value) : (nodeC k S kv).length = 258 := by
 unfold nodeC; rw [List.length_cons, List.length_append, boolC_len]; rfl
theorem nodeC_set (k : Int) (S : Nat → Bool) (kv : Value) (c : Nat) (hc : c < 256) : (nodeC k S kv)[1 + c]? = some (.bool (S c)) := by
 unfold nodeC
 rw [Nat.add_comm, List.getElem?_cons_succ, List.getElem?_append_left (by rw [boolC_len]; exact hc)]
 unfold boolC
 rw [List.getElem?_map, List.getElem?_range hc]
 rfl
theorem nodeC_kids (k : Int) (S : Nat → Bool) (kv : Value) : (nodeC k S kv)[257]? = some kv := by
 unfold nodeC
 rw [show (257 : Nat) = 256 + 1 by rfl, List.getElem?_cons_succ, List.getElem?_append_right (by rw [boolC_len]; exact Nat.le_refl _), boolC_len]
 rfl
theorem nodeC_one (k : Int) (S : Nat → Bool) (kv : Value) (h : kv.oneCell' = true) : ∀ y ∈ nodeC k S kv, y.oneCell' = true := by
 intro y hy
 unfold nodeC boolC at hy
 rcases List.mem_cons.1 hy with rfl | hy
 ·rfl
 ·rcases List.mem_append.1 hy with hy | hy
  ·obtain ⟨c, _, rfl⟩ := List.mem_map.1 hy
   rfl
  ·rw [List.mem_singleton.1 hy]; exact h
structure KidsAt (w : World) (P : Nat → Prop) (kv : Value) (l : List (List Value)) : Prop where
 row : RdAt w kv l.length 258 l.flatten
 each : ∀ x ∈ l, x.length = 258
 own : ∀ q, kv.ownBlock = some q → P q
 few : l.length ≤ 1000000
inductive NA (w : World) (P : Nat → Prop) : Nat → List (List Value) → Re → Prop
 | set (S : Nat → Bool) (kv : Value) : NA w P 0 [nodeC 0 S kv] (.set S)
 | alts {l : List (List Value)} {a : Re} {S : Nat → Bool} {kv : Value} : NA w P 1 l a → KidsAt w P kv l → NA w P 0 [nodeC 1 S kv] a
 | row {l : List (List Value)} {a : Re} {S : Nat → Bool} {kv : Value} : NA w P 2 l a → KidsAt w P kv l → NA w P 0 [nodeC 2 S kv] a
 | star {x : List Value} {a : Re} {S : Nat → Bool} {kv : Value} : NA w P 0 [x] a → KidsAt w P kv [x] → NA w P 0 [nodeC 3 S kv] (.star a)
 | plus {x : List Value} {a : Re} {S : Nat → Bool} {kv : Value} : NA w P 0 [x] a → KidsAt w P kv [x] → NA w P 0 [nodeC 4 S kv] (.plus a)
 | opt {x : List Value} {a : Re} {S : Nat → Bool} {kv : Value} : NA w P 0 [x] a → KidsAt w P kv [x] → NA w P 0 [nodeC 5 S kv] (.opt a)
 | a0 : NA w P 1 [] .no
 | a1 {l : List (List Value)} {x : List Value} {a b : Re} : NA w P 1 l a → NA w P 0 [x] b → NA w P 1 (l ++ [x]) (.alt a b)
 | r0 : NA w P 2 [] .eps
 | r1 {l : List (List Value)} {x : List Value} {a b : Re} : NA w P 2 l a → NA w P 0 [x] b → NA w P 2 (l ++ [x]) (.cat a b)
theorem rd_keepB {w w' : World} {v : Value} {n k : Nat} {xs : List Value} (h : RdAt w v n k xs) (hs : w.heap.size ≤ w'.heap.size) (hk : ∀ q, v.ownBlock = some q → q < w.heap.size → w'.heap[q]? = w.heap[q]?) : RdAt w' v n k xs := by
 refine ⟨h.1, ?_⟩
 rcases h.2 with h1 | ⟨a, c, rfl, hc, hr⟩
 ·exact .inl h1
 ·refine .inr ⟨a, c, rfl, hc, fun hn => ?_⟩
  obtain ⟨b, o, rfl, hlt, hcell⟩ := hr hn
  exact ⟨b, o, rfl, Nat.lt_of_lt_of_le hlt hs, fun j x hx => (World.cell?_of_block (a := ⟨b, o + j, none⟩) (hk b rfl hlt)).trans (hcell j x hx)⟩
theorem KidsAt.keep {w w' : World} {P : Nat → Prop} {kv : Value} {l : List (List Value)} (h : KidsAt w P kv l) (hs : w.heap.size ≤ w'.heap.size) (hk : ∀ q, P q → q < w.heap.size → w'.heap[q]? = w.heap[q]?) : KidsAt w' P kv l :=
 ⟨rd_keepB h.row hs fun q hq hlt => hk q (h.own q hq) hlt, h.each, h.own, h.few⟩
theorem NA.keep {w w' : World} {P : Nat → Prop} {i : Nat} {l : List (List Value)} {a : Re} (h : NA w P i l a) (hs : w.heap.size ≤ w'.heap.size) (hk : ∀ q, P q → q < w.heap.size → w'.heap[q]? = w.heap[q]?) : NA w' P i l a := by
 induction h with
 | set S kv => exact .set S kv
 | alts _ h2 ih => exact .alts ih (h2.keep hs hk)
 | row _ h2 ih => exact .row ih (h2.keep hs hk)
 | star _ h2 ih => exact .star ih (h2.keep hs hk)
 | plus _ h2 ih => exact .plus ih (h2.keep hs hk)
 | opt _ h2 ih => exact .opt ih (h2.keep hs hk)
 | a0 => exact .a0
 | a1 _ _ ih1 ih2 => exact .a1 ih1 ih2
 | r0 => exact .r0
 | r1 _ _ ih1 ih2 => exact .r1 ih1 ih2
theorem KidsAt.mono {w : World} {P Q : Nat → Prop} {kv : Value} {l : List (List Value)} (h : KidsAt w P kv l) (hq : ∀ q, P q → Q q) : KidsAt w Q kv l := ⟨h.row, h.each, fun q hh => hq q (h.own q hh), h.few⟩
theorem NA.mono {w : World} {P Q : Nat → Prop} {i : Nat} {l : List (List Value)} {a : Re} (h : NA w P i l a) (hq : ∀ q, P q → Q q) : NA w Q i l a := by
 induction h with
 | set S kv => exact .set S kv
 | alts _ h2 ih => exact .alts ih (h2.mono hq)
 | row _ h2 ih => exact .row ih (h2.mono hq)
 | star _ h2 ih => exact .star ih (h2.mono hq)
 | plus _ h2 ih => exact .plus ih (h2.mono hq)
 | opt _ h2 ih => exact .opt ih (h2.mono hq)
 | a0 => exact .a0
 | a1 _ _ ih1 ih2 => exact .a1 ih1 ih2
 | r0 => exact .r0
 | r1 _ _ ih1 ih2 => exact .r1 ih1 ih2
theorem NA.later {w w' : World} {P : Nat → Prop} {i : Nat} {l : List (List Value)} {a : Re} (h : NA w P i l a) (hb : Below w.heap.size w w') : NA w' P i l a := h.keep hb.size fun q _ hq => hb.block q hq
end Go.Proofs.YtipnhpfpppblhaaGreat
/- The reference's reader: next, fail, sign: contracts. -/
namespace Go.Proofs.YtipnhpfpppblhaaGreat
open Go.RowKit
theorem rpeek_of {s : ByteArray} {b : Bs} (he : b.err = 0) (hp : b.pos < s.size) : peekM s b = some (byteM s b.pos) := by unfold peekM; rw [if_pos ⟨he, hp⟩]
theorem rbyte_at (s : ByteArray) (k : Nat) (h : k < s.size) : ((s[k]'h).toNat : Int) = (byteM s k : Int) := by unfold byteM; rw [dif_pos h]
theorem rsign_none {s : ByteArray} {b : Bs} (h : peekM s b = none) : signM s b = (failM (stepM b) 2, 0) := by unfold signM; rw [h]
theorem rsign_plain {s : ByteArray} {b : Bs} {c : Nat} (h : peekM s b = some c) (hc : c ≠ 92) : signM s b = (stepM b, c) := by unfold signM; rw [h]; simp [hc]
theorem rsign_end {s : ByteArray} {b : Bs} (h : peekM s b = some 92) (h' : peekM s (stepM b) = none) : signM s b = (failM (stepM (stepM b)) 2, 0) := by unfold signM; rw [h]; simp [h']
theorem rsign_esc {s : ByteArray} {b : Bs} {d : Nat} (h : peekM s b = some 92) (h' : peekM s (stepM b) = some d) : signM s b = (stepM (stepM b), d) := by unfold signM; rw [h]; simp [h']
structure RdrAt (w : World) (g : Nat) (s : ByteArray) (b : Bs) : Prop where
 c0 : w.cell? ⟨g, 0, none⟩ = some (.string s)
 c1 : w.cell? ⟨g, 1, none⟩ = some (.int .i64 b.pos)
 c2 : w.cell? ⟨g, 2, none⟩ = some (.int .i64 b.err)
 th : w.there g 0 3
 lt : g < w.heap.size
theorem RdrAt.below {w w' : World} {g : Nat} {s : ByteArray} {b : Bs} (h : RdrAt w g s b) (hb : Below w.heap.size w w') : RdrAt w' g s b :=
 ⟨keep_cell h.c0 hb h.lt, keep_cell h.c1 hb h.lt, keep_cell h.c2 hb h.lt, there_later h.th hb h.lt, Nat.lt_of_lt_of_le h.lt hb.size⟩
theorem rfar {w : World} {p i b j : Nat} {v : Value} (h : ¬(p = b ∧ i = j)) : (w.setCell ⟨p, i, none⟩ v).cell? ⟨b, j, none⟩ = w.cell? ⟨b, j, none⟩ := by
 apply World.cell?_setCell_other
 intro e
 simp only [Addr.mk.injEq] at e
 exact h ⟨e.1, e.2.1⟩
theorem rthere_set {w : World} {g o n : Nat} (h : w.there g o n) (p i : Nat) (v : Value) : (w.setCell ⟨p, i, none⟩ v).there g o n := World.there_setCells h p i [v]
theorem RdrAt.setPos {w : World} {g : Nat} {s : ByteArray} {b : Bs} (h : RdrAt w g s b) (k : Nat) : RdrAt (w.setCell ⟨g, 1, none⟩ (.int .i64 k)) g s { b with pos := k } :=
 ⟨by rw [rfar (by omega)]; exact h.c0, World.cell?_setCell_same _ _ _ h.c1, by rw [rfar (by omega)]; exact h.c2, rthere_set h.th _ _ _, by simpa using h.lt⟩
theorem RdrAt.step {w : World} {g : Nat} {s : ByteArray} {b : Bs} (h : RdrAt w g s b) : RdrAt (w.setCell ⟨g, 1, none⟩ (.int .i64 ((b.pos : Int) + 1))) g s (stepM b) := h.setPos (b.pos + 1)
theorem RdrAt.setErr {w : World} {g : Nat} {s : ByteArray} {b : Bs} (h : RdrAt w g s b) (e : Int) : RdrAt (w.setCell ⟨g, 2, none⟩ (.int .i64 e)) g s { b with err := e } :=
 ⟨by rw [rfar (by omega)]; exact h.c0, by rw [rfar (by omega)]; exact h.c1, World.cell?_setCell_same _ _ _ h.c2, rthere_set h.th _ _ _, by simpa using h.lt⟩
abbrev Kr (g : Nat) (w w' : World) : Prop := Keep (fun k => k = g) w w'
theorem Kr.refl (g : Nat) (w : World) : Kr g w w := Keep.refl _ w
theorem Kr.trans {g : Nat} {a b c : World} (h : Kr g a b) (h' : Kr g b c) : Kr g a c := Keep.trans h h' (fun _ hk => .inl hk)
theorem Kr.of_below {g : Nat} {w w' : World} (h : Below w.heap.size w w') : Kr g w w' := Keep.of_below h
theorem Kr.set (g : Nat) (w : World) (i : Nat) (v : Value) : Kr g w (w.setCell ⟨g, i, none⟩ v) := Keep.setCell (Keep.refl (fun k => k = g) w) (p := ⟨g, i, none⟩) rfl v
set_option maxHeartbeats 1600000 in
set_option maxRecDepth 100000 in
theorem next_is (w : World) (g : Nat) (s : ByteArray) (b : Bs) (o : Option Nat) (ho : peekM s b = o) (h : RdrAt w g s b) (hp : b.pos ≤ 2000000) :
  Calls Tryz.prog 131 #[.pointer (some ⟨g, 0, none⟩)] w fun e w' => e = .returned (.tuple #[.int .u8 ((o.getD 0 : Nat) : Int), .bool o.isSome]) ∧ Below w.heap.size w w' := by
 obtain ⟨c0, c1, c2, _, _⟩ := h
 obtain ⟨pos, err, sts⟩ := b
 dsimp only at c1 c2 hp
 by_cases he : err = 0
 ·subst he
  by_cases hps : pos < s.size
  ·have hb : peekM s ⟨pos, 0, sts⟩ = some (byteM s pos) := rpeek_of rfl hps
   rw [hb] at ho
   subst ho
   have hn : decide ((pos : Int) < (s.size : Int)) = true := by simpa using hps
   have hn2 : decide ((s.size : Int) ≤ (pos : Int)) = false := by simpa using hps
   have hn3 : decide (s.size ≤ pos) = false := by simpa using hps
   have hi : (0 : Int) ≤ (pos : Int) := by omega
   have hi2 : (pos : Int) < (s.size : Int) := by omega
   have HB := rbyte_at s pos hps
   have HB' := Lib.hid HB
   clear hb HB
   go_enter Tryz.func131, Tryz.ntmps131
   go_wp2
   go_quiet (fail)
   go_wp2
   go_quiet (fail)
   go_wp2
   go_ret2
   refine ⟨?_, ?_⟩
   ·simp only [Option.getD_some, Option.isSome_some]
    rw [← HB'.out]
    rfl
   ·exact bl_drewN (bl_drewN (Below.refl _ _) _) _
  ·have hb : peekM s ⟨pos, 0, sts⟩ = none := by unfold peekM; rw [if_neg (fun h => hps h.2)]
   rw [hb] at ho
   subst ho
   have hn : decide ((pos : Int) < (s.size : Int)) = false := by simpa using hps
   have hn2 : decide ((s.size : Int) ≤ (pos : Int)) = true := by simp; omega
   have hn3 : decide (s.size ≤ pos) = true := by simp; omega
   clear hb
   go_enter Tryz.func131, Tryz.ntmps131
   go_wp2
   go_quiet (fail)
   go_wp2
   go_ret2
   exact ⟨rfl, bl_drewN (Below.refl _ _) _⟩
 ·have hb : peekM s ⟨pos, err, sts⟩ = none := by unfold peekM; rw [if_neg (fun h => he h.1)]
  rw [hb] at ho
  subst ho
  have hd : (err != 0) = true := by simpa using he
  have hd2 : (err == 0) = false := by simpa using he
  clear hb
  go_enter Tryz.func131, Tryz.ntmps131
  go_wp2
  go_quiet (fail)
  go_wp2
  go_ret2
  exact ⟨rfl, bl_drewN (Below.refl _ _) _⟩
set_option maxHeartbeats 800000 in
set_option maxRecDepth 100000 in
theorem rfail_is (w : World) (g : Nat) (s : ByteArray) (b : Bs) (e0 : Int) (h : RdrAt w g s b) :
  Calls Tryz.prog 119 #[.pointer (some ⟨g, 0, none⟩), .int .i64 e0] w fun e w' => e = .returned (.tuple #[]) ∧ RdrAt w' g s (failM b e0) ∧ Kr g w w' := by
 have h' := h
 obtain ⟨c0, c1, c2, th, _⟩ := h
 have f2 := there_free th 2 (by omega)
 obtain ⟨pos, err, sts⟩ := b
 dsimp only at c1 c2
 clear th
 by_cases he : err = 0
 ·subst he
  have HN := Lib.hid (h'.setErr e0)
  have HF : Hid (failM ⟨pos, 0, sts⟩ e0 = ⟨pos, e0, sts⟩) := Lib.hid rfl
  clear h'
  go_enter Tryz.func119, Tryz.ntmps119
  go_wp2
  go_end0
  refine ⟨rfl, ?_, Kr.set g _ _ _⟩
  rw [HF.out]
  exact HN.out
 ·have hd2 : (err == 0) = false := by simpa using he
  have HF : Hid (failM ⟨pos, err, sts⟩ e0 = ⟨pos, err, sts⟩) := Lib.hid (by unfold failM; rw [if_neg he])
  have HN := Lib.hid h'
  clear h'
  go_enter Tryz.func119, Tryz.ntmps119
  go_wp2
  go_end0
  refine ⟨rfl, ?_, Kr.refl _ _⟩
  rw [HF.out]
  exact HN.out
set_option maxHeartbeats 1600000 in
set_option maxRecDepth 100000 in
theorem rsign_is (w : World) (g : Nat) (s : ByteArray) (b : Bs) (h : RdrAt w g s b) (hp : b.pos ≤ 1000000) :
  Calls Tryz.prog 156 #[.pointer (some ⟨g, 0, none⟩)] w fun e w' => e = .returned (.int .u8 ((signM s b).2 : Nat)) ∧ RdrAt w' g s (signM s b).1 ∧ Kr g w w' := by
 obtain ⟨o, ho⟩ : ∃ o, peekM s b = o := ⟨_, rfl⟩
 have k1 := next_is w g s b o ho h (by omega)
 have HO := Lib.hid ho
 have HB := Lib.hid h
 clear ho h
 go_enter Tryz.func156, Tryz.ntmps156
 go_wp2_with fail
 refine k1.mono ?_
 rintro e w1 ⟨rfl, hb1⟩
 have HB1 := Lib.hid (HB.out.below hb1)
 have HS1 := Lib.hid (Kr.of_below (g := g) hb1)
 have c1 := HB1.out.c1
 have f1 := there_free HB1.out.th 1 (by omega)
 clear k1 hb1
 go_upto_region 3 with fail
 change Code.wp _ _ _ _ (w1.setCell ⟨g, 1, none⟩ (.int .i64 ((b.pos : Int) + 1)))
 have HB2 := Lib.hid HB1.out.step
 have HS2 := Lib.hid (HS1.out.trans (Kr.set g w1 1 (.int .i64 ((b.pos : Int) + 1))))
 clear c1 f1 HB1 HS1 HB
 generalize w1.setCell ⟨g, 1, none⟩ (.int .i64 ((b.pos : Int) + 1)) = w2 at *
 have kf := fun W b (h : RdrAt W g s b) => rfail_is W g s b 2 h
 have KF := Lib.hid kf
 clear kf
 cases o
 ·have k2 := KF.out _ _ HB2.out
  go_wp2_with fail
  refine k2.mono ?_
  rintro e w3 ⟨rfl, hB3, hs3⟩
  have HB3 := Lib.hid hB3
  have HS3 := Lib.hid (HS2.out.trans hs3)
  clear k2 hB3 hs3
  go_wp2
  go_ret
  rw [rsign_none HO.out]
  exact ⟨rfl, HB3.out, HS3.out⟩
 ·rename_i c
  by_cases hc : c = 92
  ·subst hc
   obtain ⟨o, ho⟩ : ∃ o, peekM s (stepM b) = o := ⟨_, rfl⟩
   have k2 := next_is w2 g s (stepM b) o ho HB2.out (by simp only [stepM]; omega)
   have HO2 := Lib.hid ho
   clear ho
   go_wp2_with fail
   refine k2.mono ?_
   rintro e w3 ⟨rfl, hb3⟩
   have HB3 := Lib.hid (HB2.out.below hb3)
   have HS3 := Lib.hid (HS2.out.trans (Kr.of_below (g := g) hb3))
   have c1 := HB3.out.c1
   have f1 := there_free HB3.out.th 1 (by omega)
   have hps : (stepM b).pos ≤ 1000001 := by simp only [stepM]; omega
   clear k2 hb3 HB2 HS2
   go_upto_region 6 with fail
   change Code.wp _ _ _ _ (w3.setCell ⟨g, 1, none⟩ (.int .i64 (((stepM b).pos : Int) + 1)))
   have HB4 := Lib.hid HB3.out.step
   have HS4 := Lib.hid (HS3.out.trans (Kr.set g w3 1 (.int .i64 (((stepM b).pos : Int) + 1))))
   clear c1 f1 HB3 HS3
   generalize w3.setCell ⟨g, 1, none⟩ (.int .i64 (((stepM b).pos : Int) + 1)) = w4 at *
   cases o
   ·have k2 := KF.out _ _ HB4.out
    go_wp2_with fail
    refine k2.mono ?_
    rintro e w5 ⟨rfl, hB5, hs5⟩
    have HB5 := Lib.hid hB5
    have HS5 := Lib.hid (HS4.out.trans hs5)
    clear k2 hB5 hs5
    go_wp2
    go_ret
    rw [rsign_end HO.out HO2.out]
    exact ⟨rfl, HB5.out, HS5.out⟩
   ·rename_i d
    go_wp2
    go_ret
    rw [rsign_esc HO.out HO2.out]
    exact ⟨rfl, HB4.out, HS4.out⟩
  ·have hcb : ((c : Int) == 92) = false := by rw [beq_eq_false_iff_ne]; omega
   have HC := Lib.hid hc
   clear hc
   go_wp2
   go_ret
   rw [rsign_plain HO.out HC.out]
   exact ⟨rfl, HB2.out, HS2.out⟩
end Go.Proofs.YtipnhpfpppblhaaGreat
/- The reference's tree: operations on a whole node (258 cells), one law each. -/
namespace Go.Proofs.YtipnhpfpppblhaaGreat
open Go.RowKit
def noB : Nat → Bool := fun _ => false
def zeroN (k : Int) : Array Value := (nodeC k noB (.slice none 0 0)).toArray
theorem zeroN_size (k : Int) : (zeroN k).size = 258 := by unfold zeroN; rw [List.size_toArray, nodeC_len]
theorem zeroN_list (k : Int) : (zeroN k).toList = nodeC k noB (.slice none 0 0) := by unfold zeroN; simp
set_option maxRecDepth 100000 in
theorem node_zero : (Tryz.prog.info? 143).map (fun i => (i.zero, i.size, i.bytes)) = some (some (.agg (zeroN 0)), 258, 288) := by kernel_rfl
theorem node_size : (Tryz.prog.info? 143).map (·.size) = some 258 := by
 have h := node_zero
 cases hq : Tryz.prog.info? 143 with
 | none => rw [hq] at h; cases h
 | some i =>
  rw [hq] at h
  simp only [Option.map_some, Option.some.injEq, Prod.mk.injEq] at h ⊢
  exact h.2.1
set_option maxRecDepth 100000 in
theorem node_built0 : Tryz.prog.built 143 [] = some (zeroN 0) := by kernel_rfl
set_option maxRecDepth 100000 in
theorem node_built1 : Tryz.prog.built 143 [(0, .int .i64 1)] = some (zeroN 1) := by kernel_rfl
set_option maxRecDepth 100000 in
theorem node_built2 : Tryz.prog.built 143 [(0, .int .i64 2)] = some (zeroN 2) := by kernel_rfl
set_option maxRecDepth 100000 in
theorem node_built3 (k : Int) (a : Option Addr) (n c : Nat) : Tryz.prog.built 143 [(0, .int .i64 k), (2, .slice a n c)] = some (nodeC k noB (.slice a n c)).toArray := by kernel_rfl
theorem node_run_zero (w : World) : (zeroValue 143).run Tryz.prog w = .ok (.agg (zeroN 0)) w := by
 have h := node_zero
 cases hq : Tryz.prog.info? 143 with
 | none => rw [hq] at h; cases h
 | some i =>
  rw [hq] at h
  simp only [Option.map_some, Option.some.injEq, Prod.mk.injEq] at h
  simp [zeroValue, typeInfo, hq, h.1]
section
variable {ops : Array Oper} {rest : List Oper} {o : Oper} {a : Act} {w : World} {Q : Exit → Act → World → Prop}
theorem wpList_allocN (hg : o.guard = none) (ho : o.op = .alloc 143) (dst : Option Tmp) (hdst : o.dst = dst) (N : Nat) (hN : w.heap.size = N)
  (h : wpList Tryz.prog ops Q rest (a.put dst (.pointer (some ⟨N, 0, none⟩))) (w.alloc (.cells (zeroN 0) 143))) : wpList Tryz.prog ops Q (o :: rest) a w := by
 subst hdst hN
 refine wpList_plain hg fun K hK => ?_
 unfold Oper.wp execOp
 simp only [ho, Sem.run_bind, Instr.alloc, newVar, newRow, node_run_zero, run_newObj_alloc, Sem.run_pure, Result.andThen_ok, Value.cells]
 exact hK _ _ h
theorem wpList_buildN (hg : o.guard = none) (parts : Array (Nat × Operand)) (ho : o.op = .build 143 parts) (dst : Option Tmp) (hdst : o.dst = dst) (cells : Array Value)
  (hf : Tryz.prog.built 143 (parts.map fun (i, x) => (i, a.eval x)).toList = some cells)
  (h : wpList Tryz.prog ops Q rest (a.put dst (.agg cells)) w) : wpList Tryz.prog ops Q (o :: rest) a w := by
 subst hdst
 refine wpList_build hg 143 parts ho (by rw [hf]; rfl) ?_
 rw [hf]
 exact h
theorem wpList_loadN (hg : o.guard = none) (x : Operand) (ho : o.op = .load 143 x) (dst : Option Tmp) (hdst : o.dst = dst) (b i : Nat) (hx : a.eval x = .pointer (some ⟨b, i, none⟩)) (cs : List Value) (hc : w.rangeAt b i cs) (hl : cs.length = 258)
  (h : wpList Tryz.prog ops Q rest (a.put dst (.agg cs.toArray)) w) : wpList Tryz.prog ops Q (o :: rest) a w := by
 subst hdst
 exact wpList_load_mid hg 143 x ho b i hx cs _ hc Tryz.underlying143 rfl (by rw [hl]; exact node_size) h
theorem wpList_storeN (hg : o.guard = none) (x y : Operand) (ho : o.op = .store 143 x y) (dst : Option Tmp) (hdst : o.dst = dst) (b i : Nat) (cs : List Value) (hx : a.eval x = .pointer (some ⟨b, i, none⟩)) (hy : a.eval y = .agg cs.toArray)
  (ht : w.there b i 258) (hl : cs.length = 258) (h1 : ∀ y ∈ cs, y.oneCell' = true)
  (h : wpList Tryz.prog ops Q rest (a.put dst undef) (w.setCells b i cs)) : wpList Tryz.prog ops Q (o :: rest) a w := by
 subst hdst
 refine wpList_store_mid hg 143 x y ho b i cs.toArray hx hy (by simpa [hl] using ht) (by simpa [hl] using node_size) (all_oneCell_toArray h1) ?_
 simpa using h
end
structure NdAt (w : World) (p : Nat) (cs : List Value) : Prop where
 at_ : w.rangeAt p 0 cs
 th : w.there p 0 258
 len : cs.length = 258
 lt : p < w.heap.size
theorem NdAt.keep {w w' : World} {p : Nat} {cs : List Value} (h : NdAt w p cs) (hs : w.heap.size ≤ w'.heap.size) (hk : w'.heap[p]? = w.heap[p]?) : NdAt w' p cs :=
 ⟨fun j v hv => (World.cell?_of_block (a := ⟨p, 0 + j, none⟩) hk).trans (h.at_ j v hv), fun j hj => by
  obtain ⟨h1, h2⟩ := h.th j hj
  exact ⟨by rw [World.cell?_of_block (a := ⟨p, 0 + j, none⟩) hk]; exact h1, by rw [World.frozen?_of_block (a := ⟨p, 0 + j, none⟩) hk]; exact h2⟩, h.len, Nat.lt_of_lt_of_le h.lt hs⟩
theorem NdAt.later {w w' : World} {p : Nat} {cs : List Value} (h : NdAt w p cs) (hb : Below w.heap.size w w') : NdAt w' p cs := h.keep hb.size (hb.block p h.lt)
theorem NdAt.kr {w w' : World} {g p : Nat} {cs : List Value} (h : NdAt w p cs) (hk : Kr g w w') (hne : p ≠ g) : NdAt w' p cs := h.keep hk.size (hk.block p h.lt hne)
theorem NdAt.cell {w : World} {p : Nat} {cs : List Value} (h : NdAt w p cs) {j : Nat} {v : Value} (hv : cs[j]? = some v) : w.cell? ⟨p, j, none⟩ = some v := by
 have := h.at_ j v hv
 rwa [Nat.zero_add] at this
theorem NdAt.free {w : World} {p : Nat} {cs : List Value} (h : NdAt w p cs) {j : Nat} (hj : j < 258) : w.frozen? ⟨p, j, none⟩ = false := by
 have := (h.th j hj).2
 rwa [Nat.zero_add] at this
theorem there_new (w : World) (k : Int) (t : TypeId) : (w.alloc (.cells (zeroN k) t)).there w.heap.size 0 258 := by
 have h := box_there (xs := zeroN k) (t := t) (Below.refl _ (w.alloc (.cells (zeroN k) t)))
 rwa [zeroN_size] at h
theorem NdAt.new (w : World) (k : Int) (t : TypeId) : NdAt (w.alloc (.cells (zeroN k) t)) w.heap.size (nodeC k noB (.slice none 0 0)) :=
 ⟨fun j v hv => by
  rw [Nat.zero_add]
  refine (box_cells (Below.refl _ (w.alloc (.cells (zeroN k) t)))).1 j v ?_
  rw [← Array.getElem?_toList, zeroN_list]
  exact hv, there_new w k t, nodeC_len _ _ _, by rw [World.size_alloc]; omega⟩
theorem size_setCells (w : World) (g o : Nat) (vs : List Value) : (w.setCells g o vs).heap.size = w.heap.size := by
 induction vs generalizing w o with
 | nil => rfl
 | cons v r ih => rw [World.setCells, ih]; simp
theorem NdAt.stored {w : World} {p : Nat} {old cs : List Value} (h : NdAt w p old) (hl : cs.length = 258) : NdAt (w.setCells p 0 cs) p cs :=
 ⟨World.rangeAt_setCells_same w p 0 cs (by rw [hl]; exact h.th), World.there_setCells h.th p 0 cs, hl, by rw [size_setCells]; exact h.lt⟩
theorem NdAt.set {w : World} {p : Nat} {cs : List Value} (h : NdAt w p cs) (j : Nat) (v : Value) (hj : j < 258) : NdAt (w.setCell ⟨p, j, none⟩ v) p (cs.set j v) :=
 ⟨fun i u hu => by
  rw [Nat.zero_add]
  rw [List.getElem?_set] at hu
  split at hu
  ·rename_i e
   subst e
   split at hu
   ·rw [← Option.some.inj hu]
    exact World.cell?_setCell_same _ _ _ (h.cell (List.getElem?_eq_getElem (by rw [h.len]; exact hj)))
   ·cases hu
  ·rename_i e
   rw [rfar (by omega)]
   exact h.cell hu, rthere_set h.th _ _ _, by simpa using h.len, by simpa using h.lt⟩
theorem nodeC_setK (k : Int) (S : Nat → Bool) (kv kv' : Value) : (nodeC k S kv).set 257 kv' = nodeC k S kv' := by
 unfold nodeC
 rw [show (257 : Nat) = 256 + 1 by rfl, List.set_cons_succ, List.set_append_right _ _ (by rw [boolC_len]; exact Nat.le_refl _), boolC_len]
 rfl
theorem nodeC_setB (k : Int) (S : Nat → Bool) (kv : Value) (c : Nat) (hc : c < 256) (v : Bool) : (nodeC k S kv).set (1 + c) (.bool v) = nodeC k (fun x => if x = c then v else S x) kv := by
 unfold nodeC
 rw [Nat.add_comm, List.set_cons_succ, List.set_append_left _ _ (by rw [boolC_len]; exact hc)]
 congr 2
 unfold boolC
 apply List.ext_getElem?
 intro i
 rw [List.getElem?_set]
 by_cases hi : i < 256
 ·simp only [List.getElem?_map, List.getElem?_range hi, List.length_map, List.length_range, Option.map_some]
  by_cases e : c = i
  ·subst e
   simp [hi]
  ·simp [e, Ne.symm e]
 ·have h1 : ((List.range 256).map fun c => Value.bool (S c))[i]? = none := List.getElem?_eq_none (by simp; omega)
  have h2 : ((List.range 256).map fun x => Value.bool (if x = c then v else S x))[i]? = none := List.getElem?_eq_none (by simp; omega)
  rw [h1, h2, if_neg (by omega)]
end Go.Proofs.YtipnhpfpppblhaaGreat
/- The reference's reader under way: what its functions carry. -/
namespace Go.Proofs.YtipnhpfpppblhaaGreat
open Go.RowKit
abbrev nilS : Value := .slice none 0 0
theorem Kr.new {g : Nat} {w0 w : World} (h : Kr g w0 w) (p i : Nat) (v : Value) (hp : w0.heap.size ≤ p) : Kr g w0 (w.setCell ⟨p, i, none⟩ v) :=
 ⟨h.os, h.tape, h.output, by rw [World.size_setCell]; exact h.size, fun k hk hn => by rw [Below.heap_setCell w ⟨p, i, none⟩ v k (by show k ≠ p; omega)]; exact h.block k hk hn⟩
theorem Kr.news {g : Nat} {w0 w : World} (h : Kr g w0 w) (p : Nat) (hp : w0.heap.size ≤ p) : ∀ (vs : List Value) (o : Nat), Kr g w0 (w.setCells p o vs) := by
 intro vs
 induction vs generalizing w with
 | nil => intro o; exact h
 | cons v r ih => intro o; exact ih (h.new p o v hp) (o + 1)
theorem RdrAt.kept {w w' : World} {g : Nat} {s : ByteArray} {b : Bs} (h : RdrAt w g s b) (hs : w.heap.size ≤ w'.heap.size) (hk : w'.heap[g]? = w.heap[g]?) : RdrAt w' g s b :=
 ⟨(World.cell?_of_block (a := ⟨g, 0, none⟩) hk).trans h.c0, (World.cell?_of_block (a := ⟨g, 1, none⟩) hk).trans h.c1, (World.cell?_of_block (a := ⟨g, 2, none⟩) hk).trans h.c2,
  fun j hj => by
   obtain ⟨h1, h2⟩ := h.th j hj
   exact ⟨by rw [World.cell?_of_block (a := ⟨g, 0 + j, none⟩) hk]; exact h1, by rw [World.frozen?_of_block (a := ⟨g, 0 + j, none⟩) hk]; exact h2⟩, Nat.lt_of_lt_of_le h.lt hs⟩
theorem there_kept {w w' : World} {p n : Nat} (h : w.there p 0 n) (hk : w'.heap[p]? = w.heap[p]?) : w'.there p 0 n := fun j hj => by
 obtain ⟨h1, h2⟩ := h j hj
 exact ⟨by rw [World.cell?_of_block (a := ⟨p, 0 + j, none⟩) hk]; exact h1, by rw [World.frozen?_of_block (a := ⟨p, 0 + j, none⟩) hk]; exact h2⟩
theorem heap_setCells (w : World) (p k : Nat) (hk : k ≠ p) : ∀ (vs : List Value) (o : Nat), (w.setCells p o vs).heap[k]? = w.heap[k]? := by
 intro vs
 induction vs generalizing w with
 | nil => intro o; rfl
 | cons v r ih => intro o; exact (ih (w.setCell ⟨p, o, none⟩ v) (o + 1)).trans (Below.heap_setCell w ⟨p, o, none⟩ v k hk)
def rposAt (w : World) (g : Nat) : Nat := match w.cell? ⟨g, 1, none⟩ with
 | some (.int _ n) => n.toNat
 | _ => 0
theorem RdrAt.posAt {w : World} {g : Nat} {s : ByteArray} {b : Bs} (h : RdrAt w g s b) : rposAt w g = b.pos := by
 unfold rposAt
 rw [h.c1]
 simp
structure Clr (w0 w : World) (g : Nat) (s : ByteArray) (b : Bs) (cs : List Value) : Prop where
 rdr : RdrAt w g s b
 nd : NdAt w (w0.heap.size + 1) cs
 res : w.there w0.heap.size 0 258
 kr : Kr g w0 w
 gl : g < w0.heap.size
theorem Clr.new {w : World} {g : Nat} {s : ByteArray} {b : Bs} (h : RdrAt w g s b) (k : Int) (t : TypeId) : Clr w (((w.alloc (.cells (zeroN 0) t)).alloc (.cells (zeroN 0) t)).setCells (w.heap.size + 1) 0 (nodeC k noB nilS)) g s b (nodeC k noB nilS) := by
 have b1 : Below w.heap.size w (w.alloc (.cells (zeroN 0) t)) := alloc_below _ _
 have b2 : Below w.heap.size w ((w.alloc (.cells (zeroN 0) t)).alloc (.cells (zeroN 0) t)) := b1.trans ((alloc_below _ _).mono b1.size)
 have n2 := NdAt.new (w.alloc (.cells (zeroN 0) t)) 0 t
 have r2 := there_later (there_new w 0 t) (alloc_below (w.alloc (.cells (zeroN 0) t)) (.cells (zeroN 0) t)) (by rw [World.size_alloc]; omega)
 rw [World.size_alloc] at n2
 refine ⟨(h.below b2).kept (by rw [size_setCells]; exact Nat.le_refl _) (heap_setCells _ _ _ (by have := h.lt; omega) _ _), n2.stored (nodeC_len _ _ _), there_kept r2 (heap_setCells _ _ _ (by omega) _ _), (Kr.of_below b2).news _ (by omega) _ _, h.lt⟩
theorem Clr.below {w0 w w' : World} {g : Nat} {s : ByteArray} {b : Bs} {cs : List Value} (h : Clr w0 w g s b cs) (hb : Below w.heap.size w w') : Clr w0 w' g s b cs :=
 ⟨h.rdr.below hb, h.nd.later hb, there_later h.res hb (by have := h.nd.lt; omega), h.kr.trans (Kr.of_below hb), h.gl⟩
theorem Clr.stp {w0 w w' : World} {g : Nat} {s : ByteArray} {b b' : Bs} {cs : List Value} (h : Clr w0 w g s b cs) (hr : RdrAt w' g s b') (hk : Kr g w w') : Clr w0 w' g s b' cs :=
 ⟨hr, h.nd.kr hk (by have := h.gl; omega), there_kept h.res (hk.block _ (by have := h.nd.lt; omega) (by have := h.gl; omega)), h.kr.trans hk, h.gl⟩
theorem Clr.step {w0 w : World} {g : Nat} {s : ByteArray} {b : Bs} {cs : List Value} (h : Clr w0 w g s b cs) : Clr w0 (w.setCell ⟨g, 1, none⟩ (.int .i64 ((b.pos : Int) + 1))) g s (stepM b) cs :=
 h.stp h.rdr.step (Kr.set g w 1 _)
theorem Clr.put {w0 w : World} {g : Nat} {s : ByteArray} {b : Bs} {cs : List Value} (h : Clr w0 w g s b cs) (j : Nat) (v : Value) (hj : j < 258) : Clr w0 (w.setCell ⟨w0.heap.size + 1, j, none⟩ v) g s b (cs.set j v) :=
 ⟨h.rdr.kept (by simp) (Below.heap_setCell w _ v g (by show g ≠ w0.heap.size + 1; have := h.gl; omega)), h.nd.set j v hj, rthere_set h.res _ _ _, h.kr.new _ _ _ (by omega), h.gl⟩
theorem Clr.done {w0 w : World} {g : Nat} {s : ByteArray} {b : Bs} {cs : List Value} (h : Clr w0 w g s b cs) (vs : List Value) : RdrAt (w.setCells w0.heap.size 0 vs) g s b ∧ Kr g w0 (w.setCells w0.heap.size 0 vs) :=
 ⟨h.rdr.kept (by rw [size_setCells]; exact Nat.le_refl _) (heap_setCells _ _ _ (by have := h.gl; omega) _ _), h.kr.news _ (Nat.le_refl _) _ _⟩
theorem oneN (k : Int) (S : Nat → Bool) : ∀ y ∈ nodeC k S nilS, y.oneCell' = true := nodeC_one k S nilS rfl
def addU (S : Nat → Bool) (lo k : Nat) : Nat → Bool := fun c => S c || (decide (lo ≤ c) && decide (c < k))
theorem addU_start (S : Nat → Bool) (lo : Nat) : addU S lo lo = S := by
 funext c
 have : (decide (lo ≤ c) && decide (c < lo)) = false := by
  by_cases h : lo ≤ c
  ·rw [decide_eq_false (show ¬ c < lo by omega), Bool.and_false]
  ·rw [decide_eq_false h, Bool.false_and]
 unfold addU
 rw [this, Bool.or_false]
theorem addU_end {S : Nat → Bool} {lo hi k : Nat} (h1 : hi < k) (h2 : k ≤ hi + 1 ∨ k = lo) : addU S lo k = addS S lo hi := by
 funext c
 unfold addU addS
 congr 1
 by_cases h : lo ≤ c
 ·rw [decide_eq_true h, Bool.true_and, Bool.true_and]
  by_cases h3 : c ≤ hi
  ·rw [decide_eq_true h3, decide_eq_true (by omega)]
  ·rw [decide_eq_false h3, decide_eq_false (by omega)]
 ·rw [decide_eq_false h, Bool.false_and, Bool.false_and]
theorem addU_succ {S : Nat → Bool} {lo k : Nat} (h : lo ≤ k) : (fun x => if x = k then true else addU S lo k x) = addU S lo (k + 1) := by
 funext c
 unfold addU
 by_cases e : c = k
 ·subst e
  rw [if_pos rfl, decide_eq_true h, decide_eq_true (Nat.lt_succ_self c)]
  simp
 ·rw [if_neg e]
  congr 2
  exact decide_eq_decide.2 (by omega)
def turnU (S : Nat → Bool) (k : Nat) : Nat → Bool := fun c => if c < k then !S c else S c
theorem turnU_zero (S : Nat → Bool) : turnU S 0 = S := by funext c; unfold turnU; rw [if_neg (by omega)]
theorem turnU_at (S : Nat → Bool) (k : Nat) : turnU S k k = S k := by unfold turnU; rw [if_neg (by omega)]
theorem turnU_succ (S : Nat → Bool) (k : Nat) : (fun x => if x = k then !S k else turnU S k x) = turnU S (k + 1) := by
 funext c
 unfold turnU
 by_cases e : c = k
 ·subst e
  rw [if_pos rfl, if_pos (by omega)]
 ·rw [if_neg e]
  have : (c < k) = (c < k + 1) := propext (by omega)
  simp only [this]
theorem nodeC_congr {k : Int} {S T : Nat → Bool} (h : ∀ c, c < 256 → S c = T c) (kv : Value) : nodeC k S kv = nodeC k T kv := by
 unfold nodeC boolC
 congr 2
 exact List.map_congr_left (fun c hc => by rw [h c (List.mem_range.1 hc)])
theorem turnU_all (S : Nat → Bool) (k : Int) (kv : Value) : nodeC k (turnU S 256) kv = nodeC k (turnS S) kv :=
 nodeC_congr (fun c hc => by unfold turnU turnS; rw [if_pos hc]) kv
end Go.Proofs.YtipnhpfpppblhaaGreat
/- The tree of a pattern; the builder's states fit its texts. No program in sight. -/
namespace Go.Proofs.YtipnhpfpppblhaaGreat
def timesR (s : ByteArray) (b : Bs) (a : Re) : Re := match peekM s b with
  | none => a
  | some c => if c = 42 then .star a else if c = 43 then .plus a else if c = 63 then .opt a else a
def reM (s : ByteArray) : Nat → Md → Re → Nat → Bs → Re
  | 0, _, acc, _, _ => acc
  | n + 1, .either, _, d, b => reM s n (.alts (b.sts.length, b.sts.length + 1)) .no d (nodeM (nodeM b))
  | n + 1, .alts p, acc, d, b =>
    let r := runM s n .row d b
    let a := Re.alt acc (reM s n .row .no d b)
    let b2 := freeM (freeM r.1 p.1 r.2.1) r.2.2 p.2
    if peekM s b2 = some 124 then reM s n (.alts p) a d (stepM b2) else a
  | n + 1, .row, _, d, b => reM s n (.parts (b.sts.length, b.sts.length)) .eps d (nodeM b)
  | n + 1, .parts p, acc, d, b =>
    match peekM s b with
    | none => acc
    | some c => if c = 124 ∨ c = 41 then acc else
      let r := runM s n .atom d b
      let t := timesM s r.1 r.2
      reM s n (.parts (p.1, t.2.2)) (.cat acc (timesR s r.1 (reM s n .atom .no d b))) d (freeM t.1 p.2 t.2.1)
  | n + 1, .atom, _, d, b =>
    let c := byteM s b.pos
    let b1 := stepM b
    if c = 40 then
      (if d = 8 then .set noS else reM s n .either .no (d + 1) b1)
    else if c = 91 then .set (classM s b1).2
    else if c = 46 then .set (turnS noS)
    else if c = 92 then
      (match peekM s b1 with
       | none => .set (oneS 0)
       | some e => .set (oneS e))
    else if oddB c = true then .set noS
    else .set (oneS c)
structure Made (b : Bs) (lo : Nat) (r : Bs × (Nat × Nat)) (a : Re) : Prop where
  old : ∀ k, k < lo → r.1.sts[k]? = b.sts[k]?
  frg : Frg r.1.sts lo r.1.sts.length r.2.1 r.2.2 a
def reT (p : ByteArray) : Re := reM p (8 * p.size + 5) .either .no 0 bs0
end Go.Proofs.YtipnhpfpppblhaaGreat
/- The reference's class: a contract. -/
namespace Go.Proofs.YtipnhpfpppblhaaGreat
open Go.RowKit
def RLoop (w0 : World) (g : Nat) (s : ByteArray) (r : Bs × (Nat → Bool)) (v : Value) (w : World) : Prop :=
 ∃ (n i : Nat) (b : Bs) (S : Nat → Bool), v = .int .i64 (i : Nat) ∧ loopM s (n + 1) (decide (i = 0)) b S = r ∧ s.size - b.pos ≤ n ∧ b.pos ≤ s.size + 1 ∧ i ≤ b.pos ∧ Clr w0 w g s b (nodeC 0 S nilS)
theorem rloop_none {s : ByteArray} {n : Nat} {first : Bool} {b : Bs} {S : Nat → Bool} (h : peekM s b = none) : loopM s (n + 1) first b S = (failM b 2, S) := by rw [loopM, h]
theorem rloop_first {s : ByteArray} {n : Nat} {b : Bs} {S : Nat → Bool} (h : peekM s b = some 93) : loopM s (n + 1) true b S = (failM b 2, S) := by rw [loopM, h]; rfl
theorem rloop_end {s : ByteArray} {n : Nat} {b : Bs} {S : Nat → Bool} (h : peekM s b = some 93) : loopM s (n + 1) false b S = (stepM b, S) := by rw [loopM, h]; rfl
theorem rloop_on {s : ByteArray} {n d : Nat} {first : Bool} {b : Bs} {S : Nat → Bool} (h : peekM s b = some d) (hd : d ≠ 93) {x : Bs × Nat} (hx : signM s b = x) {y : Bs × Nat} (hy : rangeM s x.1 x.2 = y) : loopM s (n + 1) first b S = loopM s n false (if y.2 < x.2 then failM y.1 2 else y.1) (addS S x.2 y.2) := by
 rw [loopM, h]
 dsimp only
 rw [if_neg hd, hx, hy]
theorem rrange_false {s : ByteArray} {b : Bs} (h : peekM s b ≠ some 45) : rangeB s b = false := by unfold rangeB; rw [decide_eq_false h]; rfl
theorem rrange_at {s : ByteArray} {b : Bs} (h : peekM s b = some 45) : rangeB s b = (decide (b.pos + 1 < s.size) && !decide (byteM s (b.pos + 1) = 93)) := by unfold rangeB; rw [decide_eq_true h]; rfl
theorem rpeek_lt {s : ByteArray} {b : Bs} {c : Nat} (h : peekM s b = some c) : c < 256 := by rw [(peekM_some h).2.2]; exact byteM_lt _ _
theorem wp_forget2 {Pr : Program} {Q : Exit → Act → World → Prop} {c : Code} {a : Act} {W : World} (P : World → Prop) (h : P W) (k : ∀ W', P W' → Code.wp Pr c Q a W') : Code.wp Pr c Q a W := k W h
theorem is_94 (o : Option Nat) : (((o.getD 0 : Nat) : Int) == 94) = decide (o = some 94) := by
 cases o with
 | none => rfl
 | some c =>
  by_cases h : c = 94
  ·subst h; rfl
  ·rw [decide_eq_false (by simpa using h), beq_eq_false_iff_ne]
   show (c : Int) ≠ 94
   omega
set_option maxHeartbeats 12800000 in
set_option maxRecDepth 100000 in
theorem rclass_is (w : World) (g : Nat) (s : ByteArray) (b1 : Bs) (h : RdrAt w g s b1) (hp : b1.pos ≤ s.size) (hs : s.size ≤ 1000) :
  Calls Tryz.prog 151 #[.pointer (some ⟨g, 0, none⟩)] w fun e w' => ∃ S' b', e = .returned (.agg (nodeC 0 S' nilS).toArray) ∧ RdrAt w' g s b' ∧ b'.err = (classM s b1).1.err ∧ b'.pos ≤ s.size + 1 ∧
   (b'.err = 0 → b'.pos = (classM s b1).1.pos ∧ nodeC 0 S' nilS = nodeC 0 (classM s b1).2 nilS) ∧ Kr g w w' := by
 have hc := Clr.new h 0 143
 have kf := fun W b (h : RdrAt W g s b) => rfail_is W g s b 2 h
 have KF := Lib.hid kf
 have HC0 := Lib.hid hc
 clear kf hc h
 go_enter Tryz.func151, Tryz.ntmps151
 go_upto_region 2 with (first
  | (with_reducible refine wpList_allocN rfl rfl _ rfl w.heap.size rfl ?_)
  | (with_reducible refine wpList_allocN rfl rfl _ rfl (w.heap.size + 1) (World.size_alloc _ _) ?_)
  | ((with_reducible refine wpList_buildN rfl _ rfl _ rfl (zeroN 0) ?hf ?_); (case hf => exact node_built0))
  | ((with_reducible refine wpList_storeN rfl _ _ rfl _ rfl (w.heap.size + 1) 0 (nodeC 0 noB nilS) ?hx ?hy ?ht (nodeC_len _ _ _) (oneN _ _) ?_); (case hx => rfl); (case hy => rfl); (case ht => exact (by have := there_new (w.alloc (.cells (zeroN 0) 143)) 0 143; rwa [World.size_alloc] at this))))
 refine wp_forget2 (fun W => Clr w W g s b1 (nodeC 0 noB nilS)) HC0.out (fun w1 hw1 => ?_)
 have H1 := Lib.hid hw1
 obtain ⟨o, ho⟩ : ∃ o, peekM s b1 = o := ⟨_, rfl⟩
 have k1 := next_is w1 g s b1 o ho H1.out.rdr (by omega)
 have HO := Lib.hid ho
 clear ho hw1 HC0
 go_wp2_with fail
 refine k1.mono ?_
 rintro e w2 ⟨rfl, hb⟩
 have H2 := Lib.hid (H1.out.below hb)
 clear k1 hb H1
 obtain ⟨nt, hnt⟩ : ∃ nt, decide (o = some 94) = nt := ⟨_, rfl⟩
 have hv : (((o.getD 0 : Nat) : Int) == 94) = nt := (is_94 o).trans hnt
 have HNT := Lib.hid hnt
 clear hnt
 go_upto_if 22 with fail
 clear hv
 go_cut [] from 23 (fun wx => Hid (Clr w wx g s (if nt = true then stepM b1 else b1) (nodeC 0 noB nilS)))
 case first =>
  cases nt with
  | true =>
   have c1 := H2.out.rdr.c1
   have f1 := there_free H2.out.rdr.th 1 (by omega)
   go_wp2
   go_meet
   exact Lib.hid (by rw [if_pos (by simp)]; exact H2.out.step)
  | false =>
   go_wp2
   go_meet
   exact Lib.hid (by rw [if_neg (by simp)]; exact H2.out)
 case rest =>
 obtain ⟨b0, hb0⟩ : ∃ b0, (if nt = true then stepM b1 else b1) = b0 := ⟨_, rfl⟩
 rw [hb0] at hcut
 have HX := hcut
 have hp0 : b0.pos ≤ s.size + 1 := by rw [← hb0]; split <;> (try simp only [stepM]) <;> omega
 obtain ⟨r0, hr0⟩ : ∃ r0, loopM s (s.size + 1) true b0 noS = r0 := ⟨_, rfl⟩
 have HR0 := Lib.hid hr0
 have HCM : Hid (classM s b1 = (r0.1, if nt = true then turnS r0.2 else r0.2)) := Lib.hid (by
  have h1 := HNT.out
  unfold classM
  cases nt with
  | true =>
   have h2 : o = some 94 := of_decide_eq_true h1
   rw [if_pos (HO.out.trans h2), if_pos rfl]
   rw [if_pos rfl] at hb0
   rw [hb0, hr0]
  | false =>
   have h2 : ¬ o = some 94 := of_decide_eq_false h1
   rw [if_neg (by rw [HO.out]; exact h2), if_neg (by decide)]
   rw [if_neg (by decide)] at hb0
   rw [hb0, hr0])
 clear hr0 hb0 hcut H2 HO HNT hp
 go_wp2
 go_loopw [7] (fun v wr => RLoop w g s r0 v wr) (fun _ wr => s.size + 5 - rposAt wr g)
 case atStart => exact ⟨s.size, 0, b0, noS, rfl, HR0.out, by omega, hp0, by omega, HX.out⟩
 case round =>
  clear HX HR0 hp0 b0
  obtain ⟨n, i, b, S, rfl, he, hn, hp, hip, hC⟩ := hrel
  have HE := Lib.hid he
  have HC := Lib.hid hC
  obtain ⟨o, ho⟩ : ∃ o, peekM s b = o := ⟨_, rfl⟩
  have k1 := next_is wr g s b o ho HC.out.rdr (by omega)
  have HO := Lib.hid ho
  clear he hC ho
  go_wp2_with fail
  refine k1.mono ?_
  rintro e wa ⟨rfl, hba⟩
  have HA := Lib.hid (HC.out.below hba)
  clear k1 hba
  rcases o with _ | d
  ·have kq := KF.out _ _ HA.out.rdr
   go_wp2_with fail
   refine kq.mono ?_
   rintro e w1 ⟨rfl, hB1, hs1⟩
   have H1 := Lib.hid (HA.out.stp hB1 hs1)
   clear kq hB1 hs1
   go_wp2_with (first
   | ((with_reducible refine wpList_loadN rfl _ rfl _ rfl (w.heap.size + 1) 0 ?hx (nodeC 0 S nilS) ?hc (nodeC_len _ _ _) ?_); (case hx => rfl); (case hc => exact H1.out.nd.at_))
   | ((with_reducible refine wpList_storeN rfl _ _ rfl _ rfl w.heap.size 0 (nodeC 0 S nilS) ?hx ?hy ?ht (nodeC_len _ _ _) (oneN _ _) ?_); (case hx => rfl); (case hy => rfl); (case ht => exact H1.out.res)))
   refine bodyPost_ret (results_agg1 rfl _ _ w.heap.size (nodeC 0 S nilS) (.struct _) rfl (World.rangeAt_setCells_same _ _ _ _ (by rw [nodeC_len]; exact H1.out.res)) Tryz.underlying143 rfl (by rw [nodeC_len]; exact node_size)) rfl ?_
   have he := HE.out
   rw [rloop_none HO.out] at he
   subst he
   refine ⟨S, _, rfl, (H1.out.done _).1, ?_, ?_, ?_, (H1.out.done _).2⟩
   ·rw [HCM.out]
   ·rw [failM_pos]; exact hp
   ·intro h0; exact absurd h0 (failM_err (by decide))
  ·by_cases hd : d = 93
   ·subst hd
    have c1 := HA.out.rdr.c1
    have f1 := there_free HA.out.rdr.th 1 (by omega)
    have hps := (peekM_some HO.out).2.1
    have hi0 : (((i : Nat) : Int) == 0) = decide (i = 0) := by
     by_cases h : i = 0
     ·subst h; rfl
     ·rw [decide_eq_false h, beq_eq_false_iff_ne]; omega
    obtain ⟨B, hB⟩ : ∃ B, decide (i = 0) = B := ⟨_, rfl⟩
    rw [hB] at hi0
    have HBI := Lib.hid hB
    clear hB
    go_upto_region 14 with fail
    refine wp_forget2 (fun W => Clr w W g s (stepM b) (nodeC 0 S nilS)) HA.out.step (fun w2 hw2 => ?_)
    have H2 := Lib.hid hw2
    clear hw2 c1 f1 HA HC
    go_upto_if 52 with fail
    clear hi0
    go_cut [] from 30 to 118 (fun wx => ∃ b' : Bs, b'.err = r0.1.err ∧ b'.pos ≤ s.size + 1 ∧ (b'.err = 0 → b'.pos = r0.1.pos) ∧ r0.2 = S ∧ Hid (Clr w wx g s b' (nodeC 0 S nilS)))
    case first =>
     have he := HE.out
     rw [HBI.out] at he
     cases B with
     | true =>
      rw [rloop_first HO.out] at he
      subst he
      have kq := KF.out _ _ H2.out.rdr
      go_wp2_with fail
      refine kq.mono ?_
      rintro e w3 ⟨rfl, hB3, hs3⟩
      have H3 := Lib.hid (H2.out.stp hB3 hs3)
      clear kq hB3 hs3
      go_wp2
      go_meet
      have he0 := (peekM_some HO.out).1
      refine ⟨_, ?_, ?_, ?_, by trivial, H3⟩
      ·unfold failM stepM; simp [he0]
      ·rw [failM_pos]; simp only [stepM]; omega
      ·intro h0; exact absurd h0 (failM_err (by decide))
     | false =>
      rw [rloop_end HO.out] at he
      subst he
      go_wp2
      go_meet
      exact ⟨stepM b, rfl, by simp only [stepM]; omega, fun _ => rfl, by trivial, H2⟩
    case rest =>
    obtain ⟨b', he1, he2, he3, he4, H4⟩ := hcut
    subst he4
    have HF := Lib.hid (And.intro he1 (And.intro he2 he3))
    clear he1 he2 he3 H2 HE HO HBI hps hip hp hn
    generalize r0.2 = S at *
    cases nt with
    | true =>
     go_wp2
     go_loopw [13] (fun v wr => ∃ k : Nat, v = .int .i64 (k : Nat) ∧ k ≤ 256 ∧ Hid (Clr w wr g s b' (nodeC 0 (turnU S k) nilS))) (fun v _ => 257 - (intOf v).toNat)
     case atStart => exact ⟨0, rfl, by omega, Lib.hid (by rw [turnU_zero]; exact H4.out)⟩
     case round =>
      clear H4
      obtain ⟨k, rfl, hk, HT⟩ := hrel
      by_cases hk2 : k < 256
      ·have n1 := HT.out.nd.cell (nodeC_set 0 (turnU S k) nilS k hk2)
       have f1 := HT.out.nd.free (j := 1 + k) (by omega)
       have hk0 : (0 : Int) ≤ (k : Int) := by omega
       have hk1 : (k : Int) < 256 := by omega
       go_wp2
       go_roundw
       case rel => exact ⟨k + 1, by go_num, by omega, Lib.hid (by
        have := HT.out.put (1 + k) (.bool (!(turnU S k k))) (by omega)
        rw [nodeC_setB 0 _ _ k hk2, turnU_at, turnU_succ] at this
        rw [turnU_at]
        exact this)⟩
       case measure => (simp [intOf]; try omega)
      ·obtain rfl : k = 256 := by omega
       go_wp2_with (first
   | ((with_reducible refine wpList_loadN rfl _ rfl _ rfl (w.heap.size + 1) 0 ?hx (nodeC 0 (turnU S 256) nilS) ?hc (nodeC_len _ _ _) ?_); (case hx => rfl); (case hc => exact HT.out.nd.at_))
   | ((with_reducible refine wpList_storeN rfl _ _ rfl _ rfl w.heap.size 0 (nodeC 0 (turnU S 256) nilS) ?hx ?hy ?ht (nodeC_len _ _ _) (oneN _ _) ?_); (case hx => rfl); (case hy => rfl); (case ht => exact HT.out.res)))
       refine bodyPost_ret (results_agg1 rfl _ _ w.heap.size (nodeC 0 (turnU S 256) nilS) (.struct _) rfl (World.rangeAt_setCells_same _ _ _ _ (by rw [nodeC_len]; exact HT.out.res)) Tryz.underlying143 rfl (by rw [nodeC_len]; exact node_size)) rfl ?_
       refine ⟨turnU S 256, _, rfl, (HT.out.done _).1, ?_, HF.out.2.1, ?_, (HT.out.done _).2⟩
       ·rw [HCM.out]; exact HF.out.1
       ·intro h0
        refine ⟨?_, ?_⟩
        ·rw [HCM.out]; exact HF.out.2.2 h0
        ·rw [HCM.out, if_pos (by simp)]; exact turnU_all S 0 nilS
    | false =>
     go_wp2
     go_loopw [13] (fun v wr => v = .int .i64 ((0 : Nat) : Int) ∧ Hid (Clr w wr g s b' (nodeC 0 S nilS))) (fun v _ => 0)
     case atStart => exact ⟨rfl, H4⟩
     case round =>
      clear H4
      obtain ⟨rfl, HT⟩ := hrel
      go_wp2_with (first
   | ((with_reducible refine wpList_loadN rfl _ rfl _ rfl (w.heap.size + 1) 0 ?hx (nodeC 0 S nilS) ?hc (nodeC_len _ _ _) ?_); (case hx => rfl); (case hc => exact HT.out.nd.at_))
   | ((with_reducible refine wpList_storeN rfl _ _ rfl _ rfl w.heap.size 0 (nodeC 0 S nilS) ?hx ?hy ?ht (nodeC_len _ _ _) (oneN _ _) ?_); (case hx => rfl); (case hy => rfl); (case ht => exact HT.out.res)))
      refine bodyPost_ret (results_agg1 rfl _ _ w.heap.size (nodeC 0 S nilS) (.struct _) rfl (World.rangeAt_setCells_same _ _ _ _ (by rw [nodeC_len]; exact HT.out.res)) Tryz.underlying143 rfl (by rw [nodeC_len]; exact node_size)) rfl ?_
      refine ⟨S, _, rfl, (HT.out.done _).1, ?_, HF.out.2.1, ?_, (HT.out.done _).2⟩
      ·rw [HCM.out]; exact HF.out.1
      ·intro h0
       refine ⟨?_, ?_⟩
       ·rw [HCM.out]; exact HF.out.2.2 h0
       ·rw [HCM.out, if_neg (by simp)]
   ·have hdb : ((d : Int) == 93) = false := by rw [beq_eq_false_iff_ne]; omega
    have HD := Lib.hid hd
    have hps := (peekM_some HO.out).2.1
    obtain ⟨xb, lo, hx⟩ : ∃ xb lo, signM s b = (xb, lo) := ⟨_, _, rfl⟩
    have k2 := rsign_is wa g s b HA.out.rdr (by omega)
    have hsp := signM_pos s b hps
    have hlo := signM_lt s b
    rw [hx] at k2 hsp hlo
    dsimp only at k2 hsp hlo
    have HX := Lib.hid hx
    clear hd hx
    go_wp2_with fail
    refine k2.mono ?_
    rintro e wb ⟨rfl, hBb, hsb⟩
    have HB := Lib.hid (HA.out.stp hBb hsb)
    clear k2 hBb hsb HA
    obtain ⟨o2, ho2⟩ : ∃ o2, peekM s xb = o2 := ⟨_, rfl⟩
    have k3 := next_is wb g s xb o2 ho2 HB.out.rdr (by omega)
    have HO2 := Lib.hid ho2
    clear ho2
    go_wp2_with fail
    refine k3.mono ?_
    rintro e wc ⟨rfl, hbc⟩
    have HCC := Lib.hid (HB.out.below hbc)
    clear k3 hbc HB
    go_upto_region 19 with fail
    go_cut [93] from 30 to 118 (fun v wx => v = .bool (rangeB s xb) ∧ Hid (Clr w wx g s xb (nodeC 0 S nilS)))
    case first =>
     have c0 := HCC.out.rdr.c0
     have c1 := HCC.out.rdr.c1
     rcases o2 with _ | e2
     ·simp only [Option.getD_none, Option.isSome_none]
      go_big_quiet (fail)
      go_wp2
      go_meet
      exact ⟨by rw [rrange_false (by rw [HO2.out]; simp)], Lib.hid (HCC.out.below (bl_drewN (Below.refl _ _) _))⟩
     ·simp only [Option.getD_some, Option.isSome_some]
      by_cases h45 : e2 = 45
      ·subst h45
       have hwr : IntKind.i64.wrap ((xb.pos : Int) + 1) = (xb.pos : Int) + 1 := IntWalk.i64_in _ ⟨by omega, by omega⟩
       by_cases hin : xb.pos + 1 < s.size
       ·have hi0 : (0 : Int) ≤ (xb.pos : Int) + 1 := by omega
        have hi1 : (xb.pos : Int) + 1 < (s.size : Int) := by omega
        have hnt : ((xb.pos : Int) + 1).toNat = xb.pos + 1 := by omega
        have hd1 : decide ((xb.pos : Int) + 1 < (s.size : Int)) = true := decide_eq_true hi1
        have hba := rbyte_at s (xb.pos + 1) hin
        have h9 : (((s[xb.pos + 1]'hin).toNat : Int) != 93) = !decide (byteM s (xb.pos + 1) = 93) := by
         rw [hba]
         by_cases h : byteM s (xb.pos + 1) = 93
         ·rw [h]; rfl
         ·rw [decide_eq_false h]; simp; omega
        clear hba
        go_big_quiet (fail)
        go_wp2
        go_meet
        exact ⟨by rw [rrange_at HO2.out, decide_eq_true hin, Bool.true_and], Lib.hid (HCC.out.below (bl_drewN (Below.refl _ _) _))⟩
       ·have hd1 : decide ((xb.pos : Int) + 1 < (s.size : Int)) = false := decide_eq_false (by omega)
        go_big_quiet (fail)
        go_wp2
        go_meet
        exact ⟨by rw [rrange_at HO2.out, decide_eq_false hin, Bool.false_and], Lib.hid (HCC.out.below (bl_drewN (Below.refl _ _) _))⟩
      ·have hb45 : ((e2 : Int) == 45) = false := by rw [beq_eq_false_iff_ne]; omega
       go_big_quiet (fail)
       go_wp2
       go_meet
       exact ⟨by rw [rrange_false (by rw [HO2.out]; simpa using h45)], Lib.hid (HCC.out.below (bl_drewN (Below.refl _ _) _))⟩
    case rest =>
    obtain ⟨rfl, HQ⟩ := hcut
    clear HCC HO2
    obtain ⟨R, hR⟩ : ∃ R, rangeB s xb = R := ⟨_, rfl⟩
    have HRB := Lib.hid hR
    rw [hR]
    clear hR
    go_upto_if 93 with fail
    go_cut [11] from 30 to 118 (fun v wx => ∃ (yb : Bs) (hi : Nat), v = .int .u8 (hi : Nat) ∧ hi < 256 ∧ b.pos < yb.pos ∧ yb.pos ≤ s.size + 1 ∧ Hid (rangeM s xb lo = (yb, hi)) ∧ Hid (Clr w wx g s yb (nodeC 0 S nilS)))
    case first =>
     cases R with
     | true =>
      have hin := rangeB_pos HRB.out
      have c1 := HQ.out.rdr.c1
      have f1 := there_free HQ.out.rdr.th 1 (by omega)
      go_upto_region 21 with fail
      refine wp_forget2 (fun W => Clr w W g s (stepM xb) (nodeC 0 S nilS)) HQ.out.step (fun w2 hw2 => ?_)
      have H2 := Lib.hid hw2
      clear hw2 c1 f1 HQ
      obtain ⟨yb, hi, hye⟩ : ∃ yb hi, signM s (stepM xb) = (yb, hi) := ⟨_, _, rfl⟩
      have k4 := rsign_is w2 g s (stepM xb) H2.out.rdr (by simp only [stepM]; omega)
      have hsp2 := signM_pos s (stepM xb) hin
      have hhi := signM_lt s (stepM xb)
      rw [hye] at k4 hsp2 hhi
      dsimp only at k4 hsp2 hhi
      simp only [stepM] at hsp2
      have HY := Lib.hid hye
      clear hye
      go_wp2_with fail
      refine k4.mono ?_
      rintro e wd ⟨rfl, hBd, hsd⟩
      have HDD := Lib.hid (H2.out.stp hBd hsd)
      clear k4 hBd hsd H2
      go_wp2
      go_meet
      exact ⟨yb, hi, rfl, hhi, by omega, hsp2.2, Lib.hid (by unfold rangeM; rw [if_pos HRB.out]; exact HY.out), HDD⟩
     | false =>
      go_wp2
      go_meet
      exact ⟨xb, lo, rfl, hlo, hsp.1, hsp.2, Lib.hid (by unfold rangeM; rw [if_neg (by rw [HRB.out]; decide)]), HQ⟩
    case rest =>
    obtain ⟨yb, hi, rfl, hhi, hyp1, hyp2, HY, HDD⟩ := hcut
    clear HQ HRB
    obtain ⟨B, hB⟩ : ∃ B, decide ((hi : Int) < (lo : Int)) = B := ⟨_, rfl⟩
    go_upto_if 105 with fail
    go_cut [] from 30 to 118 (fun wx => Hid (Clr w wx g s (if hi < lo then failM yb 2 else yb) (nodeC 0 S nilS)))
    case first =>
     cases B with
     | true =>
      have hlt : hi < lo := by have := of_decide_eq_true hB; omega
      have kq := KF.out _ _ HDD.out.rdr
      go_wp2_with fail
      refine kq.mono ?_
      rintro e w3 ⟨rfl, hB3, hs3⟩
      have H3 := Lib.hid (HDD.out.stp hB3 hs3)
      clear kq hB3 hs3
      go_wp2
      go_meet
      exact Lib.hid (by rw [if_pos hlt]; exact H3.out)
     | false =>
      have hlt : ¬ hi < lo := by have := of_decide_eq_false hB; omega
      go_wp2
      go_meet
      exact Lib.hid (by rw [if_neg hlt]; exact HDD.out)
    case rest =>
    clear hB HDD
    obtain ⟨zb, hz⟩ : ∃ zb, (if hi < lo then failM yb 2 else yb) = zb := ⟨_, rfl⟩
    rw [hz] at hcut
    have hzp : zb.pos = yb.pos := by rw [← hz]; split <;> simp only [failM_pos]
    have HZ := Lib.hid hz
    have HG := hcut
    clear hz hcut
    go_wp2
    go_loopw [12] (fun v wr => ∃ k : Nat, v = .int .i64 (k : Nat) ∧ lo ≤ k ∧ (k ≤ hi + 1 ∨ k = lo) ∧ Hid (Clr w wr g s zb (nodeC 0 (addU S lo k) nilS))) (fun v _ => 257 - (intOf v).toNat)
    case atStart => exact ⟨lo, rfl, Nat.le_refl _, .inr rfl, Lib.hid (by rw [addU_start]; exact HG.out)⟩
    case round =>
     clear HG
     obtain ⟨k, rfl, hk1, hk2, HT⟩ := hrel
     by_cases hk : k ≤ hi
     ·have hk256 : k < 256 := by omega
      have n1 := HT.out.nd.cell (nodeC_set 0 (addU S lo k) nilS k hk256)
      have f1 := HT.out.nd.free (j := 1 + k) (by omega)
      have hkh : (k : Int) ≤ (hi : Int) := by omega
      have hki0 : (0 : Int) ≤ (k : Int) := by omega
      have hki1 : (k : Int) < 256 := by omega
      go_wp2
      go_roundw
      case rel => exact ⟨k + 1, by go_num, by omega, by omega, Lib.hid (by
       have := HT.out.put (1 + k) (.bool true) (by omega)
       rw [nodeC_setB 0 _ _ k hk256, addU_succ hk1] at this
       exact this)⟩
      case measure => (simp [intOf]; try omega)
     ·have hkh : ¬ (k : Int) ≤ (hi : Int) := by omega
      have hkh2 : (hi : Int) < (k : Int) := by omega
      go_wp2
      go_roundw
      case rel =>
       refine ⟨n - 1, i + 1, zb, addS S lo hi, by go_num, ?_, by omega, by omega, by omega, ?_⟩
       ·have he := HE.out
        rw [rloop_on HO.out HD.out HX.out HY.out] at he
        dsimp only at he
        rw [HZ.out] at he
        have hn1 : n - 1 + 1 = n := by omega
        rw [hn1]
        exact he
       ·rw [← addU_end (show hi < k by omega) hk2]; exact HT.out
      case measure =>
       rw [HT.out.rdr.posAt, HC.out.rdr.posAt]
       omega
end Go.Proofs.YtipnhpfpppblhaaGreat
/- The reference's tree: kids under way; what a function of the reader gives back. -/
namespace Go.Proofs.YtipnhpfpppblhaaGreat
open Go.RowKit
structure Un (w0 w : World) (kv : Value) (md : Nat) (l : List (List Value)) (a : Re) (ok : Prop) : Prop where
 own : w.ownsRow (w0.heap.size + 2) 143 258 kv l.length l.flatten
 each : ∀ x ∈ l, x.length = 258 ∧ ∀ y ∈ x, y.oneCell' = true
 tree : ok → NA w (fun q => w0.heap.size + 2 ≤ q ∧ q < w.heap.size ∧ kv.ownBlock ≠ some q) md l a
theorem ownsRow_keep {w w' : World} {base : Nat} {e : TypeId} {size n : Nat} {v : Value} {xs : List Value} (h : w.ownsRow base e size v n xs) (hk : ∀ q, v.ownBlock = some q → w'.heap[q]? = w.heap[q]?) : w'.ownsRow base e size v n xs := by
 obtain ⟨h1, h2 | ⟨g, cap, cur, rfl, hb, hg, hr⟩⟩ := h
 ·exact ⟨h1, .inl h2⟩
 ·exact ⟨h1, .inr ⟨g, cap, cur, rfl, hb, (hk g rfl).trans hg, hr⟩⟩
theorem ownsRow_at {w : World} {base : Nat} {e : TypeId} {size n : Nat} {v : Value} {xs : List Value} (h : w.ownsRow base e size v n xs) : ∀ q, v.ownBlock = some q → base ≤ q ∧ q < w.heap.size := by
 obtain ⟨h1, ⟨rfl, _⟩ | ⟨g, cap, cur, rfl, hb, hg, hr⟩⟩ := h
 ·intro q hq; cases hq
 ·intro q hq
  cases hq
  exact ⟨hb, (Array.getElem?_eq_some_iff.1 hg).1⟩
theorem ownsRow_one {w : World} {base : Nat} {e : TypeId} {size n : Nat} {v : Value} {xs : List Value} (h : w.ownsRow base e size v n xs) : v.oneCell' = true := by
 obtain ⟨h1, ⟨rfl, _⟩ | ⟨g, cap, cur, rfl, hb, hg, hr⟩⟩ := h <;> rfl
theorem Un.nil (w0 w : World) {md : Nat} {a : Re} (h : ∀ P, NA w P md [] a) (ok : Prop) : Un w0 w nilS md [] a ok := ⟨World.ownsRow_nil _ _ _ _, fun x hx => (by cases hx), fun _ => h _⟩
theorem Un.keep {w0 w w' : World} {kv : Value} {md : Nat} {l : List (List Value)} {a : Re} {ok : Prop} (h : Un w0 w kv md l a ok) (hs : w.heap.size ≤ w'.heap.size) (hk : ∀ q, w0.heap.size + 2 ≤ q → q < w.heap.size → w'.heap[q]? = w.heap[q]?) : Un w0 w' kv md l a ok :=
 ⟨ownsRow_keep h.own fun q hq => (let ⟨h1, h2⟩ := ownsRow_at h.own q hq; hk q h1 h2), h.each, fun o => ((h.tree o).keep hs fun q hq hlt => hk q hq.1 hlt).mono fun _ hq => ⟨hq.1, Nat.lt_of_lt_of_le hq.2.1 hs, hq.2.2⟩⟩
theorem Un.kr {g : Nat} {w0 w w' : World} {kv : Value} {md : Nat} {l : List (List Value)} {a : Re} {ok : Prop} (h : Un w0 w kv md l a ok) (hk : Kr g w w') (hg : g < w0.heap.size) : Un w0 w' kv md l a ok :=
 h.keep hk.size fun q h1 h2 => hk.block q h2 (by omega)
theorem Un.below {w0 w w' : World} {kv : Value} {md : Nat} {l : List (List Value)} {a : Re} {ok : Prop} (h : Un w0 w kv md l a ok) (hb : Below w.heap.size w w') : Un w0 w' kv md l a ok :=
 h.keep hb.size fun q _ h2 => hb.block q h2
theorem Un.put {w0 w : World} {kv : Value} {md : Nat} {l : List (List Value)} {a : Re} {ok : Prop} (h : Un w0 w kv md l a ok) (p i : Nat) (v : Value) (hp : p < w0.heap.size + 2) : Un w0 (w.setCell ⟨p, i, none⟩ v) kv md l a ok :=
 h.keep (by simp) fun q h1 _ => Below.heap_setCell w ⟨p, i, none⟩ v q (by show q ≠ p; omega)
theorem Un.puts {w0 w : World} {kv : Value} {md : Nat} {l : List (List Value)} {a : Re} {ok : Prop} (h : Un w0 w kv md l a ok) (p i : Nat) (vs : List Value) (hp : p < w0.heap.size + 2) : Un w0 (w.setCells p i vs) kv md l a ok :=
 h.keep (by rw [size_setCells]; exact Nat.le_refl _) fun q h1 _ => heap_setCells w p q (by omega) vs i
theorem Un.kids {w0 w : World} {kv : Value} {md : Nat} {l : List (List Value)} {a : Re} {ok : Prop} (h : Un w0 w kv md l a ok) (hl : l.length ≤ 1000000) : KidsAt w (fun q => w0.heap.size ≤ q ∧ q < w.heap.size) kv l :=
 ⟨RdAt.own h.own, fun x hx => (h.each x hx).1, fun q hq => (let ⟨h1, h2⟩ := ownsRow_at h.own q hq; ⟨by omega, h2⟩), hl⟩
theorem Un.all {w0 w : World} {kv : Value} {md : Nat} {l : List (List Value)} {a : Re} {ok : Prop} (h : Un w0 w kv md l a ok) (o : ok) : NA w (fun q => w0.heap.size ≤ q ∧ q < w.heap.size) md l a :=
 (h.tree o).mono fun q hq => ⟨by omega, hq.2.1⟩
theorem Un.app {w0 w w' : World} {kv kv' : Value} {md : Nat} {l : List (List Value)} {a b c : Re} {ok ok' : Prop} {cs : List Value} (h : Un w0 w kv md l a ok) (hown : w'.ownsRow (w0.heap.size + 2) 143 258 kv' (l.length + 1) (l.flatten ++ cs))
  (hg : w.grownBy w' kv.ownBlock) (ho : kv'.ownBlock = kv.ownBlock ∨ kv'.ownBlock = some w.heap.size) (hcs : cs.length = 258 ∧ ∀ y ∈ cs, y.oneCell' = true) (hk : ok' → ok)
  (ht : ok' → NA w (fun q => w0.heap.size + 2 ≤ q ∧ q < w.heap.size ∧ kv.ownBlock ≠ some q) 0 [cs] b) (hf : ∀ (W : World) (P : Nat → Prop), NA W P md l a → NA W P 0 [cs] b → NA W P md (l ++ [cs]) c) : Un w0 w' kv' md (l ++ [cs]) c ok' := by
 have hsz : w.heap.size ≤ w'.heap.size := hg.size
 have hkeep : ∀ q, (w0.heap.size + 2 ≤ q ∧ q < w.heap.size ∧ kv.ownBlock ≠ some q) → q < w.heap.size → w'.heap[q]? = w.heap[q]? := fun q hq hlt => hg.block q hlt (fun e => hq.2.2 e.symm)
 refine ⟨by rw [List.length_append, List.flatten_append, List.flatten_singleton]; exact hown, fun x hx => ?_, fun o => ?_⟩
 ·rcases List.mem_append.1 hx with hx | hx
  ·exact h.each x hx
  ·rw [List.mem_singleton.1 hx]; exact hcs
 ·refine NA.mono (hf w' _ ((h.tree (hk o)).keep hsz hkeep) ((ht o).keep hsz hkeep)) ?_
  rintro q ⟨h1, h2, h3⟩
  refine ⟨h1, by omega, fun e => ?_⟩
  rcases ho with ho | ho
  ·rw [ho] at e; exact h3 e
  ·rw [ho] at e; cases e; omega
theorem RdrAt.congr {w : World} {g : Nat} {s : ByteArray} {b c : Bs} (h : RdrAt w g s b) (hp : b.pos = c.pos) (he : b.err = c.err) : RdrAt w g s c := ⟨h.c0, by rw [← hp]; exact h.c1, by rw [← he]; exact h.c2, h.th, h.lt⟩
theorem Clr.congr {w0 w : World} {g : Nat} {s : ByteArray} {b c : Bs} {cs : List Value} (h : Clr w0 w g s b cs) (hp : b.pos = c.pos) (he : b.err = c.err) : Clr w0 w g s c cs := ⟨h.rdr.congr hp he, h.nd, h.res, h.kr, h.gl⟩
theorem peek_congr {s : ByteArray} {b c : Bs} (he : b.err = c.err) (hp : b.err = 0 → b.pos = c.pos) : peekM s b = peekM s c := by
 unfold peekM
 by_cases h : b.err = 0
 ·have h2 := hp h
  rw [he, h2]
 ·rw [if_neg (fun x => h x.1), if_neg (fun x => h (he.trans x.1))]
theorem Clr.grown {w0 w w' : World} {g : Nat} {s : ByteArray} {b : Bs} {cs : List Value} {row : Option Nat} (h : Clr w0 w g s b cs) (hg : w.grownBy w' row) (hr : ∀ q, row = some q → w0.heap.size + 2 ≤ q) : Clr w0 w' g s b cs := by
 have hk : ∀ k, k < w.heap.size → k < w0.heap.size + 2 → w'.heap[k]? = w.heap[k]? := fun k hk hk2 => hg.block k hk (fun e => by have := hr k e.symm; omega)
 have hsz : w.heap.size ≤ w'.heap.size := hg.size
 have hlt := h.nd.lt
 have hgl := h.gl
 exact ⟨h.rdr.kept hsz (hk g h.rdr.lt (by omega)), h.nd.keep hsz (hk _ hlt (by omega)), there_kept h.res (hk _ (by omega) (by omega)), Keep.grown h.kr hg (fun k e => .inr (by have := hr k e; omega)), h.gl⟩
theorem Un.ok {w0 w : World} {kv : Value} {md : Nat} {l : List (List Value)} {a : Re} {ok ok' : Prop} (h : Un w0 w kv md l a ok) (o : ok' → ok) : Un w0 w kv md l a ok' := ⟨h.own, h.each, fun x => h.tree (o x)⟩
structure Back (w w' : World) (g : Nat) (s : ByteArray) (d : Nat) (r : Bs × (Nat × Nat)) (a : Re) (cs : List Value) (b' : Bs) : Prop where
 len : cs.length = 258
 one : ∀ y ∈ cs, y.oneCell' = true
 rdr : RdrAt w' g s b'
 err : b'.err = r.1.err
 pos : b'.pos ≤ s.size + 12 - d
 tree : b'.err = 0 → b'.pos = r.1.pos ∧ NA w' (fun q => w.heap.size ≤ q ∧ q < w'.heap.size) 0 [cs] a
 kr : Kr g w w'
def NdK (f : FuncId) (md : Md) (n : Nat) : Prop := ∀ (m : Nat), m ≤ n → ∀ (w : World) (g : Nat) (s : ByteArray) (d : Nat) (b : Bs), RdrAt w g s b → b.err = 0 → d ≤ 8 → b.pos ≤ s.size + 12 - d → (md = .atom → b.pos < s.size ∧ byteM s b.pos ≠ 124 ∧ byteM s b.pos ≠ 41) → s.size ≤ 100 → fuelM s b md ≤ m →
 Calls Tryz.prog f #[.pointer (some ⟨g, 0, none⟩), .int .i64 (d : Nat)] w fun e w' => ∃ cs b', e = .returned (.agg cs.toArray) ∧ Back w w' g s d (runM s m md d b) (reM s m md .no d b) cs b'
theorem fill_node (cs : List Value) (hl : cs.length = 258) (z : Array Value) (hz : z.size = 258) : Instr.fill (fun i => some (i * 258, 258)) z [(0, .agg cs.toArray)] = some cs.toArray := by
 obtain ⟨r, hr, hsz, hk⟩ := Great.fill_dense (s := 258) (by decide) [.agg cs.toArray] 0 z (fun v hv => by rw [List.mem_singleton.1 hv]; show cs.toArray.size = 258; simpa using hl) (by simp [hz])
 have e : r = cs.toArray := by
  apply Array.ext_getElem?
  intro k
  rw [hk k]
  by_cases h : k < 258
  ·rw [if_pos ⟨by omega, by simpa using h⟩, show k / 258 - 0 = 0 by omega, Nat.mod_eq_of_lt h]
   rfl
  ·rw [if_neg (by simp; omega), Array.getElem?_eq_none (by omega), Array.getElem?_eq_none (by simp; omega)]
 rw [e] at hr
 exact hr
theorem fill_one (a : Act) (x : Operand) (cs : List Value) (hl : cs.length = 258) (hx : a.eval x = .agg cs.toArray) : Instr.fill (fun i => some (i * 258, 258)) ((Array.range (1 * 258)).map ((Value.agg (zeroN 0)).cells[· % (Value.agg (zeroN 0)).cells.size]!)) ((#[(0, x)] : Array (Nat × Operand)).map fun (i, x) => (i, a.eval x)).toList = some cs.toArray := by
 simp only [List.map_toArray, List.map_cons, List.map_nil, hx]
 exact fill_node cs hl _ (by rw [Array.size_map, Array.size_range])
theorem built_kids (a : Act) (x y : Operand) (k : Int) (ad : Option Addr) (n c : Nat) (hx : a.eval x = .int .i64 k) (hy : a.eval y = .slice ad n c) : Tryz.prog.built 143 ((#[(0, x), (2, y)] : Array (Nat × Operand)).map fun (i, x) => (i, a.eval x)).toList = some (nodeC k noB (.slice ad n c)).toArray := by
 simp only [List.map_toArray, List.map_cons, List.map_nil, hx, hy]
 exact node_built3 k ad n c
theorem info_node : (Tryz.prog.info? 143).map (fun i => (i.zero, i.size, i.bytes)) = some (some (.agg (zeroN 0)), 258, 288) := node_zero
theorem rd_node {w : World} {cs : List Value} (hl : cs.length = 258) (t : TypeId) : RdAt (w.alloc (.cells cs.toArray t)) (.slice (some ⟨w.heap.size, 0, none⟩) 1 1) 1 258 cs := by
 refine ⟨by rw [hl], .inr ⟨_, 1, rfl, Nat.le_refl _, fun _ => ⟨w.heap.size, 0, rfl, by rw [World.size_alloc]; omega, fun j x hx => ?_⟩⟩⟩
 rw [Nat.zero_add]
 exact (box_cells (Below.refl _ (w.alloc (.cells cs.toArray t)))).1 j x (by simpa using hx)
end Go.Proofs.YtipnhpfpppblhaaGreat
