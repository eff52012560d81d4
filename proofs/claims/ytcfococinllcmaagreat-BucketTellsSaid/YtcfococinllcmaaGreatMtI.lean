/- Several parts in one: Matchers: what lies in memory; match.Fine, Value, is, not: contracts. slices.IndexFunc and ContainsFunc at matchers and at fields, whatever the closure: contracts; match.Value. -/
import Derived.Test.YtcfococinllcmaaGreatFields
import Derived.Test.YtcfococinllcmaaGreatPatG
import Derived.Test.YtcfococinllcmaaGreatShelf
import Derived.Shelf.SlicesQ.IndexFunc
namespace Go.Proofs.YtcfococinllcmaaGreat
open Go.RowKit

structure Mt where
  nm : ByteArray
  op : Int
  val : ByteArray
instance : Inhabited Mt := ⟨⟨⟨#[]⟩, 0, ⟨#[]⟩⟩⟩
def mtC (m : Mt) : List Value := [.string m.nm, .int .i64 m.op, .string m.val]
abbrev mtV (m : Mt) : Value := .agg #[.string m.nm, .int .i64 m.op, .string m.val]
def mtCells : List Mt → List Value
  | [] => []
  | m :: l => .string m.nm :: .int .i64 m.op :: .string m.val :: mtCells l
theorem mtCells_len (l : List Mt) : (mtCells l).length = l.length * 3 := by
  induction l with
  | nil => rfl
  | cons s l ih => simp [mtCells, ih]; omega
theorem mtCells_append (a b : List Mt) : mtCells (a ++ b) = mtCells a ++ mtCells b := by
  induction a with
  | nil => rfl
  | cons s l ih => simp [mtCells, ih]
theorem mtCells_at (l : List Mt) (i : Nat) (h : i < l.length) : (mtCells l)[i * 3]? = some (.string l[i].nm) ∧ (mtCells l)[i * 3 + 1]? = some (.int .i64 l[i].op) ∧ (mtCells l)[i * 3 + 2]? = some (.string l[i].val) := by
  induction l generalizing i with
  | nil => cases h
  | cons s l ih =>
    cases i with
    | zero => simp [mtCells]
    | succ i =>
      obtain ⟨h1, h2, h3⟩ := ih i (by simpa using h)
      have e : (i + 1) * 3 = i * 3 + 3 := by omega
      rw [e]
      simp only [mtCells, List.getElem_cons_succ]
      refine ⟨?_, ?_, ?_⟩
      · rw [show i * 3 + 3 = i * 3 + 1 + 1 + 1 by omega]; simpa using h1
      · rw [show i * 3 + 3 + 1 = i * 3 + 1 + 1 + 1 + 1 by omega]; simpa using h2
      · rw [show i * 3 + 3 + 2 = i * 3 + 2 + 1 + 1 + 1 by omega]; simpa using h3
/-- v reads as the matchers l -/
def MtsAt (w : World) (v : Value) (l : List Mt) : Prop := RdAt w v l.length 3 (mtCells l)
theorem MtsAt.later {w w' : World} {v : Value} {l : List Mt} (h : MtsAt w v l) (hb : Below w.heap.size w w') : MtsAt w' v l := RdAt.later h hb
def MtFit (m : Mt) : Prop := m.nm.size ≤ maxLen ∧ m.val.size ≤ maxLen
def MtsFit (l : List Mt) : Prop := ∀ m ∈ l, MtFit m
/-- a matcher may be -/
def fineM (m : Mt) : Bool := nameL (B m.nm) && decide (0 ≤ m.op) && decide (m.op ≤ 3) && decide (m.val.size ≤ 200) && (decide (m.op < 2) || decide (errM m.val = 0))
theorem fineM_true {m : Mt} (h : fineM m = true) : nameL (B m.nm) = true ∧ 0 ≤ m.op ∧ m.op ≤ 3 ∧ m.val.size ≤ 200 ∧ (m.op < 2 ∨ errM m.val = 0) := by
  unfold fineM at h
  simp only [Bool.and_eq_true, Bool.or_eq_true, decide_eq_true_eq] at h
  obtain ⟨⟨⟨⟨h1, h2⟩, h3⟩, h4⟩, h5⟩ := h
  exact ⟨h1, h2, h3, h4, h5⟩
theorem box3m {w W : World} {a b c : Value} {t : TypeId} (hb : Below (w.alloc (.cells #[a, b, c] t)).heap.size (w.alloc (.cells #[a, b, c] t)) W) :
    (W.cell? ⟨w.heap.size, 0, none⟩ = some a ∧ W.cell? ⟨w.heap.size, 1, none⟩ = some b ∧ W.cell? ⟨w.heap.size, 2, none⟩ = some c) ∧ w.heap.size < W.heap.size ∧ Below w.heap.size w W := by
  obtain ⟨h, h2, h3⟩ := box_cells hb
  exact ⟨⟨h 0 _ rfl, h 1 _ rfl, h 2 _ rfl⟩, h2, h3⟩
set_option maxHeartbeats 1600000 in
set_option maxRecDepth 100000 in
theorem mfine_any (m : Mt) (w : World) (hf : MtFit m) : Calls Tryz.prog 49 #[.agg #[.string m.nm, .int .i64 m.op, .string m.val]] w fun e w' => e = .returned (.bool (fineM m)) ∧ Below w.heap.size w w' := by
  have kn := fun W => name_any m.nm W hf.1
  have kr := fun W => right_is m.val W
  have hz := hf.2
  have HF : Hid (fineM m = (nameL (B m.nm) && decide (0 ≤ m.op) && decide (m.op ≤ 3) && decide (m.val.size ≤ 200) && (decide (m.op < 2) || decide (errM m.val = 0)))) := Lib.hid rfl
  obtain ⟨nm, op, val⟩ := m
  dsimp only at *
  generalize fineM ⟨nm, op, val⟩ = R at *
  generalize nameL (B nm) = N at *
  have HR := Lib.hid kr
  unfold maxLen at hz
  clear hf kr
  have kn0 := kn (w.alloc (.cells #[.string nm, .int .i64 op, .string val] 108))
  clear kn
  go_enter Tryz.func49, Tryz.ntmps49
  go_wp2_with fail
  refine kn0.mono ?_
  rintro e w1 ⟨rfl, hb1⟩
  obtain ⟨⟨x0, x1, x2⟩, hlt, hB1⟩ := box3m hb1
  have HB := Lib.hid hB1
  clear kn0 hb1 hB1
  cases N with
  | false =>
    go_wp2
    go_ret
    exact ⟨by rw [HF.out]; rfl, HB.out⟩
  | true =>
    by_cases h0 : op < 0
    · rw [show decide (0 ≤ op) = false from decide_eq_false (by omega)] at HF
      go_wp2
      go_ret
      exact ⟨by rw [HF.out]; rfl, HB.out⟩
    · rw [show decide (0 ≤ op) = true from decide_eq_true (by omega)] at HF
      by_cases h3 : 3 < op
      · rw [show decide (op ≤ 3) = false from decide_eq_false (by omega)] at HF
        go_wp2
        go_ret
        exact ⟨by rw [HF.out]; rfl, HB.out⟩
      · rw [show decide (op ≤ 3) = true from decide_eq_true (by omega)] at HF
        by_cases hs : 200 < val.size
        · rw [show decide (val.size ≤ 200) = false from decide_eq_false (by omega)] at HF
          go_wp2
          go_ret
          exact ⟨by rw [HF.out]; rfl, HB.out⟩
        · rw [show decide (val.size ≤ 200) = true from decide_eq_true (by omega)] at HF
          by_cases h2 : op < 2
          · rw [show decide (op < 2) = true from decide_eq_true h2] at HF
            go_wp2
            go_ret
            exact ⟨by rw [HF.out]; rfl, HB.out⟩
          · rw [show decide (op < 2) = false from decide_eq_false h2] at HF
            have kr := HR.out w1
            have hde : Hid ((errM val == 0) = decide (errM val = 0)) := Lib.hid (by rw [Bool.eq_iff_iff]; simp)
            generalize errM val = E at *
            go_wp2_with fail
            refine kr.mono ?_
            rintro e w2 ⟨rfl, hb2⟩
            clear kr
            go_wp2
            go_ret
            exact ⟨by show Ending.returned (.bool (decide (op < 2) || E == 0)) = _; rw [HF.out, ← hde.out, decide_eq_false (show ¬ op < 2 by omega)]; rfl, HB.out.trans (hb2.mono HB.out.size)⟩
theorem is_any (a b : ByteArray) (w : World) : Calls Tryz.prog 116 #[.string a, .string b] w fun e w' => e = .returned (.bool (b.toList == a.toList)) ∧ Below w.heap.size w w' := by
  go_enter Tryz.func116, Tryz.ntmps116
  go_wp2
  go_ret
  exact ⟨rfl, Below.refl _ _⟩
end Go.Proofs.YtcfococinllcmaaGreat
namespace Go.Proofs.YtcfococinllcmaaGreat
open Go.RowKit

theorem idx_findM {α : Type} (p : α → Bool) (x : α) : ∀ (l : List α) (i : Nat),
    (∃ k, ∃ h : k < l.length, Lib.idxByFrom (fun _ y => p y) x l i = ((i + k : Nat) : Int) ∧ l.find? p = some l[k] ∧ l.any p = true) ∨
    (Lib.idxByFrom (fun _ y => p y) x l i = -1 ∧ l.find? p = none ∧ l.any p = false)
  | [], i => .inr ⟨rfl, rfl, rfl⟩
  | y :: r, i => by
    by_cases h : p y = true
    · exact .inl ⟨0, Nat.succ_pos _, by simp [Lib.idxByFrom, h], by simp [h], by simp [h]⟩
    · have h' : p y = false := by simpa using h
      rcases idx_findM p x r (i + 1) with ⟨k, hk, h1, h2, h3⟩ | ⟨h1, h2, h3⟩
      · refine .inl ⟨k + 1, by simpa using hk, ?_, by simp [h', h2], by simp [h', h3]⟩
        simp only [Lib.idxByFrom, h']
        rw [show (if false = true then (i : Int) else Lib.idxByFrom (fun _ y => p y) x r (i + 1)) = Lib.idxByFrom (fun _ y => p y) x r (i + 1) from rfl, h1]
        congr 1; omega
      · refine .inr ⟨?_, by simp [h', h2], by simp [h', h3]⟩
        simp only [Lib.idxByFrom, h']
        rw [show (if false = true then (i : Int) else Lib.idxByFrom (fun _ y => p y) x r (i + 1)) = Lib.idxByFrom (fun _ y => p y) x r (i + 1) from rfl, h1]
/-- matchers that Go can hold -/
abbrev MtF := { m : Mt // MtFit m }
instance : Inhabited MtF := ⟨⟨⟨⟨#[]⟩, 0, ⟨#[]⟩⟩, by unfold MtFit maxLen; decide⟩⟩
theorem mtF_list : ∀ l : List Mt, MtsFit l → ∃ l' : List MtF, l'.map Subtype.val = l
  | [], _ => ⟨[], rfl⟩
  | m :: l, h => by
    obtain ⟨l', h'⟩ := mtF_list l (fun x hx => h x (List.mem_cons_of_mem _ hx))
    exact ⟨⟨m, h m List.mem_cons_self⟩ :: l', by rw [List.map_cons, h']⟩
theorem mtC_at (l : List Mt) (j : Nat) (h : j < l.length) (i : Nat) (v : Value) (hi : (mtC l[j])[i]? = some v) : (mtCells l)[j * 3 + i]? = some v := by
  obtain ⟨h1, h2, h3⟩ := mtCells_at l j h
  match i, hi with
  | 0, hi => rw [Nat.add_zero, h1]; exact hi
  | 1, hi => rw [h2]; exact hi
  | 2, hi => rw [h3]; exact hi
  | i + 3, hi => simp [mtC] at hi
theorem idxm_empty (a : Option Addr) (c : Nat) (f : Value) (w : World) :
    Calls Tryz.prog 87 #[.slice a 0 c, f] w fun e w' => e = .returned (.int .i64 (-1)) ∧ w' = w := by
  go_enter Tryz.func87, Tryz.ntmps87
  go_wp2
  refine wp_loop_rounds 1 ?_
  rw [rounds_succ]
  go_wp2
  go_ret
  exact ⟨rfl, rfl⟩
theorem idxm_gen (l : List Mt) (hfit : MtsFit l) (p : Mt → Bool) (g : Nat) (lb : Array Value) (eg : ∀ args w, (callFunc g args).run Tryz.prog w = .ok (.enter g args) w) (v : Value) (w : World) (hv : MtsAt w v l) (hl : l.length ≤ 1000000000000)
    (hp : ∀ W m, MtFit m → Below w.heap.size w W → Calls Tryz.prog g (#[mtV m] ++ lb) W fun e w' => e = .returned (.bool (p m)) ∧ Below W.heap.size W w') :
    Calls Tryz.prog 87 #[v, .func (.func g) #[] lb] w fun e w' => ∃ i : Int, e = .returned (.int .i64 i) ∧ decide (0 ≤ i) = l.any p ∧ Below w.heap.size w w' := by
  obtain ⟨a, c, rfl, hc, hr⟩ := RdAt.shape hv
  rcases Nat.eq_zero_or_pos l.length with h0 | h0
  · have hnil : l = [] := List.length_eq_zero_iff.1 h0
    subst hnil
    refine (idxm_empty _ _ _ _).mono ?_
    rintro e w' ⟨rfl, rfl⟩
    exact ⟨_, rfl, rfl, Below.refl _ _⟩
  · obtain ⟨gb, o, rfl, hg, hcell⟩ := hr h0
    obtain ⟨l', hl'⟩ : ∃ l' : List MtF, l'.map Subtype.val = l := mtF_list l hfit
    have hlen : l'.length = l.length := by rw [← hl', List.length_map]
    have hpb : PredBelow Tryz.prog g lb (fun x : MtF => .agg (mtC x.1).toArray) (fun x => p x.1) w := fun W x hW => by
      refine Calls.mono (hp W x.1 x.2 hW) ?_
      rintro e w' ⟨rfl, hb⟩
      exact ⟨rfl, hW.trans (hb.mono hW.size)⟩
    have h := AnyQ.slices_IndexFunc (α := MtF) Tryz.laysIdxM 3 Tryz.isAgg108 Tryz.sizeOf108 (fun x => mtC x.1) (fun _ => rfl) (fun x => p x.1) g lb eg gb o l.length c l' w hpb (by omega) (by omega) hg (fun j hj i x hx => by
        have hj' : j < l'.length := by omega
        have he : l[j]'(by omega) = (l'[j]'hj').1 := by
          have : (l'.map Subtype.val)[j]'(by rw [List.length_map]; exact hj') = (l'[j]'hj').1 := List.getElem_map ..
          rw [← this]; congr 1; exact hl'.symm
        have := hcell (j * 3 + i) x (mtC_at l j (by omega) i x (by rw [he]; rw [List.getElem!_eq_getElem?_getD, List.getElem?_eq_getElem hj'] at hx; exact hx))
        rw [show o + j * 3 + i = o + (j * 3 + i) by omega]
        exact this)
    rw [← hlen, List.take_length] at h
    rw [hlen] at h
    refine h.mono ?_
    rintro e w' ⟨rfl, hb⟩
    refine ⟨_, rfl, ?_, hb⟩
    have ha : l.any p = l'.any (fun x => p x.1) := by rw [← hl', List.any_map]; rfl
    rw [ha]
    unfold Lib.idxBy
    rcases idx_findM (fun x : MtF => p x.1) default l' 0 with ⟨k, _, h1, _, h3⟩ | ⟨h1, _, h3⟩
    · rw [h1, h3]; simp
    · rw [h1, h3]; decide
set_option maxHeartbeats 800000 in
theorem hasm_gen (l : List Mt) (hfit : MtsFit l) (p : Mt → Bool) (g : Nat) (lb : Array Value) (eg : ∀ args w, (callFunc g args).run Tryz.prog w = .ok (.enter g args) w) (v : Value) (w : World) (hv : MtsAt w v l) (hl : l.length ≤ 1000000000000)
    (hp : ∀ W m, MtFit m → Below w.heap.size w W → Calls Tryz.prog g (#[mtV m] ++ lb) W fun e w' => e = .returned (.bool (p m)) ∧ Below W.heap.size W w') :
    Calls Tryz.prog 52 #[v, .func (.func g) #[] lb] w fun e w' => e = .returned (.bool (l.any p)) ∧ Below w.heap.size w w' := by
  have hk := idxm_gen l hfit p g lb eg v w hv hl hp
  generalize l.any p = R at *
  obtain ⟨a, c, rfl, hc, hr⟩ := RdAt.shape hv
  clear hfit eg hv hp hr
  go_enter Tryz.func52, Tryz.ntmps52
  go_wp2_with fail
  refine hk.mono ?_
  rintro e w1 ⟨i, rfl, hi, hb1⟩
  have HI := Lib.hid hi
  clear hk hi
  go_wp2
  go_ret
  exact ⟨by rw [← HI.out]; rfl, hb1⟩
/-! fields -/
theorem fldC_at' (l : List Fld) (j : Nat) (h : j < l.length) (i : Nat) (v : Value) (hi : ([Value.string l[j].1, Value.string l[j].2])[i]? = some v) : (fldCells l)[j * 2 + i]? = some v := by
  obtain ⟨h1, h2⟩ := fldCells_at l j h
  match i, hi with
  | 0, hi => rw [Nat.add_zero, h1]; exact hi
  | 1, hi => rw [h2]; exact hi
  | i + 2, hi => simp at hi
theorem idxf_empty (a : Option Addr) (c : Nat) (f : Value) (w : World) :
    Calls Tryz.prog 131 #[.slice a 0 c, f] w fun e w' => e = .returned (.int .i64 (-1)) ∧ w' = w := by
  go_enter Tryz.func131, Tryz.ntmps131
  go_wp2
  refine wp_loop_rounds 1 ?_
  rw [rounds_succ]
  go_wp2
  go_ret
  exact ⟨rfl, rfl⟩
theorem idxf_gen (l : List Fld) (p : Fld → Bool) (g : Nat) (lb : Array Value) (eg : ∀ args w, (callFunc g args).run Tryz.prog w = .ok (.enter g args) w) (v : Value) (w : World) (hv : FldsAt w v l) (hl : l.length ≤ 1000000000000)
    (hp : ∀ W (x : Fld), Below w.heap.size w W → Calls Tryz.prog g (#[.agg #[.string x.1, .string x.2]] ++ lb) W fun e w' => e = .returned (.bool (p x)) ∧ Below W.heap.size W w') :
    Calls Tryz.prog 131 #[v, .func (.func g) #[] lb] w fun e w' =>
      e = .returned (.int .i64 (Lib.idxByFrom (fun _ (y : Fld) => p y) default l 0)) ∧ Below w.heap.size w w' := by
  obtain ⟨a, c, rfl, hc, hr⟩ := RdAt.shape hv
  rcases Nat.eq_zero_or_pos l.length with h0 | h0
  · have hnil : l = [] := List.length_eq_zero_iff.1 h0
    subst hnil
    refine (idxf_empty _ _ _ _).mono ?_
    rintro e w' ⟨rfl, rfl⟩
    exact ⟨rfl, Below.refl _ _⟩
  · obtain ⟨gb, o, rfl, hg, hcell⟩ := hr h0
    have hpb : PredBelow Tryz.prog g lb (fun x : Fld => .agg [Value.string x.1, Value.string x.2].toArray) p w := fun W x hW => by
      refine Calls.mono (hp W x hW) ?_
      rintro e w' ⟨rfl, hb⟩
      exact ⟨rfl, hW.trans (hb.mono hW.size)⟩
    have h := AnyQ.slices_IndexFunc (α := Fld) Tryz.laysIdxF 2 Tryz.isAgg103 Tryz.sizeOf103 (fun x => [Value.string x.1, Value.string x.2]) (fun _ => rfl) p g lb eg gb o l.length c l w hpb (Nat.le_refl _) (by omega) hg (fun j hj i x hx => by
        have := hcell (j * 2 + i) x (fldC_at' l j hj i x (by rw [List.getElem!_eq_getElem?_getD, List.getElem?_eq_getElem hj] at hx; exact hx))
        rw [show o + j * 2 + i = o + (j * 2 + i) by omega]
        exact this)
    rw [List.take_length] at h
    exact h
theorem valclos (x : Fld) (b : Nat) (n : ByteArray) (w : World) (hn : w.cell? ⟨b, 0, none⟩ = some (.string n)) (hlt : b < w.heap.size) :
    Calls Tryz.prog 136 #[.agg #[.string x.1, .string x.2], .pointer (some ⟨b, 0, none⟩)] w fun e w' => e = .returned (.bool (x.1.toList == n.toList)) ∧ Below w.heap.size w w' := by
  have h1 := keep_cell hn (alloc_below w (.cells #[.string x.1, .string x.2] 103)) hlt
  go_enter Tryz.func136, Tryz.ntmps136
  go_wp2
  go_ret
  exact ⟨rfl, alloc_below _ _⟩
/-- the value of a name -/
def valueF (l : List Fld) (name : ByteArray) : ByteArray := match l.find? fun f => f.1.toList == name.toList with
  | some f => f.2
  | none => ⟨#[]⟩
set_option maxHeartbeats 1600000 in
set_option maxRecDepth 100000 in
theorem value_any (l : List Fld) (n : ByteArray) (w : World) (v : Value) (hv : FldsAt w v l) (hl : l.length ≤ 1000000000000) :
    Calls Tryz.prog 119 #[v, .string n] w fun e w' => e = .returned (.string (valueF l n)) ∧ Below w.heap.size w w' := by
  have hb0 := alloc_below w (.cells #[.string n] 9)
  have hv0 := FldsAt.later hv hb0
  have hlt0 : w.heap.size < (w.alloc (.cells #[.string n] 9)).heap.size := by rw [World.size_alloc]; omega
  have hn0 : (w.alloc (.cells #[.string n] 9)).cell? ⟨w.heap.size, 0, none⟩ = some (.string n) := by rw [cell_of_row _ _ _ _ _ _ (heap_alloc_new w _)]; rfl
  have kc := idxf_gen l (fun f => f.1.toList == n.toList) 136 #[.pointer (some ⟨w.heap.size, 0, none⟩)] (enters_of Tryz.func136 (by kernel_rfl) rfl) v _ hv0 hl
    (fun W x hW => valclos x w.heap.size n W (keep_cell hn0 hW hlt0) (Nat.lt_of_lt_of_le hlt0 hW.size))
  have HV := Lib.hid hv0
  obtain ⟨a, c, rfl, hc, hr⟩ := RdAt.shape hv
  clear hr hv hv0
  go_enter Tryz.func119, Tryz.ntmps119
  go_wp2_with fail
  refine kc.mono ?_
  rintro e w1 ⟨rfl, hb1⟩
  have B1 := Lib.hid (hb0.trans (hb1.mono (Nat.le_of_lt hlt0)))
  have HV1 := Lib.hid (HV.out.later hb1)
  clear kc hb0 hb1 hn0 hlt0 HV
  rcases idx_findM (fun f : Fld => f.1.toList == n.toList) default l 0 with ⟨k, hk, h1, h2, _⟩ | ⟨h1, h2, _⟩
  · have HR : Hid (valueF l n = l[k].2) := Lib.hid (by unfold valueF; rw [h2])
    rw [h1, Nat.zero_add]
    obtain ⟨_, _, he, _, hr⟩ := RdAt.shape HV1.out
    obtain ⟨gb, o, hab, hg, hcell⟩ := hr (by omega)
    simp only [Value.slice.injEq] at he
    obtain ⟨rfl, _, rfl⟩ := he
    subst hab
    have hc2 := hcell (k * 2 + 1) _ (fldCells_at l k hk).2
    have hk0 : (0 : Int) ≤ (k : Int) := by omega
    have hk1 : (k : Int) < (l.length : Int) := by omega
    clear h1 h2 hr hcell
    rw [← Nat.add_assoc] at hc2
    go_wp2
    go_ret
    exact ⟨by rw [HR.out]; rfl, B1.out⟩
  · have HR : Hid (valueF l n = ⟨#[]⟩) := Lib.hid (by unfold valueF; rw [h2])
    rw [h1]
    clear h1 h2
    go_wp2
    go_ret
    exact ⟨by rw [HR.out]; rfl, B1.out⟩
end Go.Proofs.YtcfococinllcmaaGreat
