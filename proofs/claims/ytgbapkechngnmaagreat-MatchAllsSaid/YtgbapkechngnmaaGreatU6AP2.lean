/- What several claims of this seat share: contracts of the functions that they reach. -/
import Derived.Test.YtgbapkechngnmaaGreatU6AP1
import Derived.Shelf.Strings.OnBuilder
import Derived.Test.YtgbapkechngnmaaGreatRunes
import Derived.Test.YtgbapkechngnmaaGreatShelf
import Derived.Test.YtgbapkechngnmaaGreatRows
import Derived.Laws.Runes
import Derived.RegionCalls
import Derived.WalkMore
import Derived.Deep.QuietTactic
import Derived.BigQuiet
import Derived.WalkSpells
import Derived.Lib.Hide
import Derived.Tactics

/- match.Text: a contract. (Printed by wip/genmat.py.) -/
namespace Go.Proofs.YtgbapkechngnmaaGreat
open Go.RowKit
theorem step_append_rdD {P : Program} {w : World} {ops : Array Oper} {o : Oper} {a : Act} {K : Act → World → Prop} {Q : Exit → Act → World → Prop} {E : Prop} (d : Tmp) (hd : o.dst = some d) (hgd : o.guard = none) (s x : Operand) (t : TypeId)
  (ho : o.op = .call { callee := .builtin .append, args := #[s, x], argTypes := #[t, t] })
  (base : Nat) (e : TypeId) (i : TypeInfo) (z : Value) (size bytes : Nat) (ht : P.underlying t = some (.slice e)) (hi : P.info? e = some i) (hz : i.zero = some z)
  (hsize : i.size = size) (hby : i.bytes = bytes) (hzs : z.cells.size = size) (hsz : 0 < size)
  (v : Value) (n : Nat) (xs : List Value) (hs : a.eval s = v) (hown : w.ownsRow base e size v n xs)
  (u : Value) (m : Nat) (news : List Value) (hx : a.eval x = u) (hu : RdAt w u m size news) (h1 : ∀ y ∈ news, y.oneCell' = true)
  (h63 : n + m ≤ maxLen) (hbytes : (n + m) * bytes ≤ 140737488355328) (hbase : base ≤ w.heap.size)
  (h : ∀ v' w', w'.ownsRow base e size v' (n + m) (xs ++ news) → w.grownBy w' v.ownBlock → (v'.ownBlock = v.ownBlock ∨ v'.ownBlock = some w.heap.size) → K (a.put (some d) v') w') :
  if Region.wanted o (yielded ops a.tmps) = true then Oper.wp P o a w K Q else E :=
 step_append_rd hgd s x t ho base e i z size bytes ht hi hz hsize hby hzs hsz v n xs hs hown u m news hx hu h1 h63 hbytes hbase (fun v' w' h2 h3 h4 => by rw [hd]; exact h v' w' h2 h3 h4)
/-! plain -/
theorem join_textB : ∀ ms : List Mt, Lib.join (ms.map oneB) [44] = textB ms
 | [] => rfl
 | [m] => by rw [textB_one]; exact Lib.join_one _ _
 | m :: n :: l => by
  have := join_textB (n :: l)
  rw [textB_more, ← this, List.map_cons, List.map_cons, Lib.join_cons, Lib.join_cons]
  simp [Lib.joinTail]
theorem oneB_len {m : Mt} (h : fineM m = true) : (oneB m).length ≤ 420 := by
 obtain ⟨h1, _, _, h4, _⟩ := fineM_true h
 have h5 : (B m.nm).length ≤ 12 := by
  unfold nameL at h1
  simp only [Bool.and_eq_true, decide_eq_true_eq] at h1
  exact h1.1.1.2
 have h6 := escB_bound (B m.val)
 rw [len_B] at h6
 have h7 : (wordB m.op).length ≤ 2 := by unfold wordB; split <;> (try split) <;> (try split) <;> decide
 unfold oneB
 simp only [List.length_append, List.length_cons, List.length_nil]
 omega
theorem textB_len : ∀ (ms : List Mt), ms.all fineM = true → (textB ms).length ≤ ms.length * 421
 | [], _ => Nat.zero_le _
 | [m], h => by
  have := oneB_len (m := m) (by simpa using h)
  rw [textB_one]
  simp only [List.length_cons, List.length_nil]
  omega
 | m :: n :: l, h => by
  rw [List.all_cons, Bool.and_eq_true] at h
  have h1 := oneB_len h.1
  have h2 := textB_len (n :: l) h.2
  rw [textB_more]
  simp only [List.length_append, List.length_cons] at h2 ⊢
  omega
def wordS (op : Int) : ByteArray := ⟨(wordB op).toArray⟩
/-! what a replacer keeps -/
def RepS (w : World) (b N : Nat) : Prop := ∃ gb a0 c0 a1 c1 t ct, RepB w b gb a0 c0 a1 c1 t ct ∧ b < N ∧ gb < N ∧ a0 < N ∧ a1 < N ∧ t < N
theorem RepS.at_ {w : World} {b N : Nat} (h : RepS w b N) : RepAt w b := by
 obtain ⟨gb, a0, c0, a1, c1, t, ct, h, _⟩ := h
 exact .inr ⟨gb, a0, c0, a1, c1, t, ct, h⟩
theorem RepS.keep {w W : World} {b N : Nat} (h : RepS w b N) (hb : Below N w W) : RepS W b N := by
 obtain ⟨gb, a0, c0, a1, c1, t, ct, h, n0, n1, n2, n3, n4⟩ := h
 have k : ∀ {g j : Nat} {v : Value}, g < N → w.cell? ⟨g, j, none⟩ = some v → W.cell? ⟨g, j, none⟩ = some v := fun {g j v} hg hc => (hb.cell (p := ⟨g, j, none⟩) hg).trans hc
 exact ⟨gb, a0, c0, a1, c1, t, ct, ⟨(hb.block b n0).trans h.bk, ⟨k n1 h.r.q, k n2 h.r.q0, k n2 h.r.q1, k n1 h.r.b, k n3 h.r.b0, k n3 h.r.b1, k n1 h.r.tt, k n4 h.r.tt0, k n4 h.r.tt1, fun j h1 h2 h3 => k n1 (h.r.n j h1 h2 h3)⟩⟩, n0, n1, n2, n3, n4⟩
theorem RepS.up {w : World} {b N M : Nat} (h : RepS w b N) (hM : N ≤ M) : RepS w b M := by
 obtain ⟨gb, a0, c0, a1, c1, t, ct, h, n0, n1, n2, n3, n4⟩ := h
 exact ⟨gb, a0, c0, a1, c1, t, ct, h, by omega, by omega, by omega, by omega, by omega⟩
theorem RepB.s {w : World} {b gb a0 c0 a1 c1 t ct : Nat} (h : RepB w b gb a0 c0 a1 c1 t ct) : RepS w b w.heap.size :=
 ⟨gb, a0, c0, a1, c1, t, ct, h, (Array.getElem?_eq_some_iff.1 h.bk).1, cell_blt h.r.q, cell_blt h.r.q0, cell_blt h.r.b0, cell_blt h.r.tt0⟩
theorem RepN.later {w w' : World} {b g c : Nat} {m : Int} (h : RepN w b g c m) (hb : Below w.heap.size w w') : RepN w' b g c m :=
 ⟨(hb.block b (Array.getElem?_eq_some_iff.1 h.bk).1).trans h.bk, keep_cell h.s0 hb (cell_blt h.s0), keep_cell h.s1 hb (cell_blt h.s1), keep_cell h.s2 hb (cell_blt h.s2), keep_cell h.s3 hb (cell_blt h.s3)⟩
theorem RepAt.later {w w' : World} {b : Nat} (h : RepAt w b) (hb : Below w.heap.size w w') : RepAt w' b := by
 rcases h with ⟨g, c, h⟩ | ⟨gb, a0, c0, a1, c1, t, ct, h⟩
 ·exact .inl ⟨g, c, h.later hb⟩
 ·exact (h.s.keep hb).at_
theorem RepAt.lt {w : World} {b : Nat} (h : RepAt w b) : b < w.heap.size := by
 rcases h with ⟨g, c, h⟩ | ⟨gb, a0, c0, a1, c1, t, ct, h⟩
 ·exact (Array.getElem?_eq_some_iff.1 h.bk).1
 ·exact (Array.getElem?_eq_some_iff.1 h.bk).1
theorem rrep_any (w : World) (b N : Nat) (s : ByteArray) (h : RepAt w b) (hN : N ≤ w.heap.size) (hs : s.size ≤ 1000000) :
  Calls Tryz.prog 50 #[.pointer (some ⟨b, 0, none⟩), .string s] w fun e w' => ∃ r, e = .returned (.string r) ∧ B r = escB (B s) ∧ w.grownBy w' (some b) ∧ RepS w' b w'.heap.size ∧ (RepS w b N → RepS w' b N) := by
 by_cases hS : RepS w b N
 ·obtain ⟨gb, a0, c0, a1, c1, t, ct, h, n0, n1, n2, n3, n4⟩ := hS
  refine (rrepS_any w b gb a0 c0 a1 c1 t ct s h hs).mono ?_
  rintro e w' ⟨r, rfl, hr, hb⟩
  have hk := RepS.keep (N := N) ⟨gb, a0, c0, a1, c1, t, ct, h, n0, n1, n2, n3, n4⟩ (hb.mono hN)
  refine ⟨r, rfl, hr, grownBy_below hb, ?_, fun _ => hk⟩
  exact (h.s.keep hb).up hb.size
 ·refine (rreplace_any w b s h hs).mono ?_
  rintro e w' ⟨r, rfl, hr, hR, hg⟩
  obtain ⟨gb, a0, c0, a1, c1, t, ct, hR⟩ := hR
  exact ⟨r, rfl, hr, hg, hR.s, fun h => absurd h hS⟩
theorem words_any (w : World) : Calls Tryz.prog 49 #[] w fun e w' => e = .returned (.agg #[.string ⟨#[61]⟩, .string ⟨#[33, 61]⟩, .string ⟨#[61, 126]⟩, .string ⟨#[33, 126]⟩]) ∧ Below w.heap.size w w' := by
 have hb := alloc_below w (.cells #[.string ⟨#[61]⟩, .string ⟨#[33, 61]⟩, .string ⟨#[61, 126]⟩, .string ⟨#[33, 126]⟩] 71)
 have hr : (w.alloc (.cells #[.string ⟨#[61]⟩, .string ⟨#[33, 61]⟩, .string ⟨#[61, 126]⟩, .string ⟨#[33, 126]⟩] 71)).rangeAt w.heap.size 0 [.string ⟨#[61]⟩, .string ⟨#[33, 61]⟩, .string ⟨#[61, 126]⟩, .string ⟨#[33, 126]⟩] := fun j v hj => by
  rw [Nat.zero_add, cell_of_row _ _ _ _ _ _ (heap_alloc_new _ _)]
  simpa using hj
 go_enter Tryz.func49, Tryz.ntmps49
 go_wp2
 refine bodyPost_ret (results_agg1 rfl _ _ w.heap.size [.string ⟨#[61]⟩, .string ⟨#[33, 61]⟩, .string ⟨#[61, 126]⟩, .string ⟨#[33, 126]⟩] _ rfl hr Tryz.underlying71 rfl (by kernel_rfl)) rfl ?_
 exact ⟨rfl, hb⟩
theorem wordS_size (op : Int) : (wordS op).size ≤ 2 := by
 show (wordB op).toArray.size ≤ 2
 unfold wordB
 split <;> (try split) <;> (try split) <;> decide
theorem oneB_nm {m : Mt} (h : fineM m = true) : m.nm.size ≤ 12 := by
 obtain ⟨h1, _⟩ := fineM_true h
 unfold nameL at h1
 simp only [Bool.and_eq_true, decide_eq_true_eq, len_B] at h1
 exact h1.1.1.2
theorem esc_size {r val : ByteArray} (hr : B r = escB (B val)) (hv : val.size ≤ 200) : r.size ≤ 400 := by
 have h1 := congrArg List.length hr
 have h2 := escB_bound (B val)
 rw [len_B] at h1 h2
 omega
theorem run_index_words (op : Int) (h0 : 0 ≤ op) (h3 : op ≤ 3) (w : World) : (Instr.index 71 (.agg #[.string ⟨#[61]⟩, .string ⟨#[33, 61]⟩, .string ⟨#[61, 126]⟩, .string ⟨#[33, 126]⟩]) (.int .i64 op)).run Tryz.prog w = .ok (.string (wordS op)) w := by
 rcases (show op = 0 ∨ op = 1 ∨ op = 2 ∨ op = 3 by omega) with rfl | rfl | rfl | rfl <;>
  simp [Instr.index, run_underlying Tryz.underlying71, asIntOf, go_sem, part, Tryz.isAgg9, Tryz.sizeOf9, wordS, wordB]
theorem sjoinM_any (w : World) {v : Value} {ws : List ByteArray} (sep : ByteArray) (hv : StrsAt w v ws) (hl : (Lib.join (ws.map B) (B sep)).length ≤ 140737488355328) :
  Calls Tryz.prog 51 #[v, .string sep] w fun e w' => ∃ s : ByteArray, e = .returned (.string s) ∧ B s = Lib.join (ws.map B) (B sep) ∧ Below w.heap.size w w' := by
 have hm := hv.2
 obtain ⟨a, c, rfl, hc, hr⟩ := hv.shape
 by_cases h0 : ws = []
 ·subst h0
  refine (Tryz.strings_Join_none a c sep w).mono ?_
  rintro e w' ⟨rfl, rfl⟩
  exact ⟨_, rfl, rfl, Below.refl _ _⟩
 ·obtain ⟨b, o, rfl, hlt, hcell⟩ := hr h0
  refine (Tryz.strings_Join b o c ws sep w hcell hlt (by omega) hc hl).mono ?_
  rintro e w' ⟨rfl, hb⟩
  exact ⟨_, rfl, rfl, hb⟩
theorem textclos (m : Mt) (w : World) (hf : MtFit m) : Calls Tryz.prog 47 #[.agg #[.string m.nm, .int .i64 m.op, .string m.val]] w fun e w' => e = .returned (.bool (!(fineM m))) ∧ Below w.heap.size w w' := by
 have hb := alloc_below w (.cells #[.string m.nm, .int .i64 m.op, .string m.val] 29)
 have k := mfine_any m (w.alloc (.cells #[.string m.nm, .int .i64 m.op, .string m.val] 29)) hf
 have HB := Lib.hid hb
 generalize fineM m = R at *
 obtain ⟨nm, op, val⟩ := m
 dsimp only at *
 clear hf hb
 go_enter Tryz.func47, Tryz.ntmps47
 go_wp2_with fail
 refine k.mono ?_
 rintro e w1 ⟨rfl, hb1⟩
 clear k
 go_wp2
 go_ret
 exact ⟨rfl, HB.out.trans (hb1.mono HB.out.size)⟩
theorem rep_step {wr w3 w4 : World} {b N k : Nat} {lv : Value} {ys : List Value} (ho : wr.ownsRow N 9 1 lv k ys) (hs : (k = 0 ∧ lv = .slice none 0 0) ∨ RepS wr b N) (h3 : Below wr.heap.size wr w3) (hN : N ≤ wr.heap.size)
  (hg : w3.grownBy w4 (some b)) (hS : RepS w4 b w4.heap.size) (hK : RepS w3 b N → RepS w4 b N) : ∃ M, N ≤ M ∧ M ≤ w4.heap.size ∧ RepS w4 b M ∧ w4.ownsRow M 9 1 lv k ys := by
 have h4 : wr.heap.size ≤ w4.heap.size := Nat.le_trans h3.size hg.size
 rcases hs with ⟨rfl, rfl⟩ | hs
 ·have : ys = [] := List.length_eq_zero_iff.1 (by rw [ho.1])
  subst this
  exact ⟨w4.heap.size, Nat.le_trans hN h4, Nat.le_refl _, hS, World.ownsRow_nil _ _ _ _⟩
 ·have hb : b < N := by obtain ⟨_, _, _, _, _, _, _, _, n0, _⟩ := hs; exact n0
  refine ⟨N, Nat.le_refl _, Nat.le_trans hN h4, hK (hs.keep (h3.mono hN)), (own_later ho h3).kept hg ?_⟩
  cases hv : lv.ownBlock with
  | none => exact .inl rfl
  | some q => exact .inr (fun e => by have := (ho.lt q hv).1; have := Option.some.inj e; omega)
theorem cell3_block {W W' : World} {g : Nat} {a b c : Value} (e : W'.heap[g]? = W.heap[g]?) (h : W.cell? ⟨g, 0, none⟩ = some a ∧ W.cell? ⟨g, 1, none⟩ = some b ∧ W.cell? ⟨g, 2, none⟩ = some c) :
  W'.cell? ⟨g, 0, none⟩ = some a ∧ W'.cell? ⟨g, 1, none⟩ = some b ∧ W'.cell? ⟨g, 2, none⟩ = some c :=
 ⟨(World.cell?_of_block (w := W) (a := ⟨g, 0, none⟩) e).trans h.1, (World.cell?_of_block (w := W) (a := ⟨g, 1, none⟩) e).trans h.2.1, (World.cell?_of_block (w := W) (a := ⟨g, 2, none⟩) e).trans h.2.2⟩
theorem row_str (w : World) (z : ByteArray) : RdAt (w.alloc (.cells #[.string z] 9)) (.slice (some ⟨w.heap.size, 0, none⟩) 1 1) 1 1 [.string z] :=
 RdAt.mk rfl (Nat.le_refl _) (by rw [World.size_alloc]; omega) (fun j x hj => by
  rw [Nat.zero_add, cell_of_row _ _ _ _ _ _ (heap_alloc_new _ _)]
  simpa using hj)
theorem mtsOk_any (ms : List Mt) : mtsOk ms = (decide (ms.length ≤ 12) && !(ms.any fun m => !(fineM m))) := by
 unfold mtsOk
 congr 1
 induction ms with
 | nil => rfl
 | cons m l ih => rw [List.any_cons, List.all_cons, ih]; cases fineM m <;> simp
set_option maxHeartbeats 3200000 in
set_option maxRecDepth 100000 in
theorem mtext_any (ms : List Mt) (v : Value) (w : World) (hm : MtsAt w v ms) (hfit : MtsFit ms) (hl : ms.length ≤ 1000000000000) :
  Calls Tryz.prog 20 #[v] w fun e w' => ∃ s n, e = .returned (.tuple #[.string s, .int .i64 n]) ∧ Below w.heap.size w w' ∧ ((mtsOk ms = true ∧ n = 0 ∧ B s = textB ms) ∨ (mtsOk ms = false ∧ n = 1 ∧ s = ⟨#[]⟩)) := by
 have kc := hasm_gen ms hfit (fun m => !(fineM m)) 47 #[] (enters_of Tryz.func47 (by kernel_rfl) rfl) v w hm hl (fun W m hmf _ => textclos m W hmf)
 have HOK := Lib.hid (mtsOk_any ms)
 obtain ⟨ma, mc, rfl, hc, hr⟩ := RdAt.shape hm
 by_cases h12 : 12 < ms.length
 ·have HO : Hid (mtsOk ms = false) := Lib.hid (by rw [HOK.out, decide_eq_false (by omega)]; rfl)
  have h12' : (12 : Int) < (ms.length : Int) := by omega
  clear kc hm hfit hr
  generalize ms.length = ln at *
  go_enter Tryz.func20, Tryz.ntmps20
  go_wp2
  go_ret2
  exact ⟨_, _, rfl, Below.refl _ _, .inr ⟨HO.out, rfl, rfl⟩⟩
 have h12' : ¬ (12 : Int) < (ms.length : Int) := by omega
 have h12'' : decide ((12 : Int) < (ms.length : Int)) = false := decide_eq_false h12'
 obtain ⟨R, hR⟩ : ∃ R, (ms.any fun m => !(fineM m)) = R := ⟨_, rfl⟩
 rw [hR] at kc HOK
 rw [decide_eq_true (by omega), Bool.true_and] at HOK
 cases R with
 | true =>
  clear hm hfit hr
  generalize hln : ms.length = ln at *
  clear hln
  go_enter Tryz.func20, Tryz.ntmps20
  go_wp2_with fail
  refine kc.mono ?_
  rintro e w1 ⟨rfl, hb1⟩
  have HB1 := Lib.hid hb1
  clear kc hb1
  go_wp2
  go_ret2
  exact ⟨_, _, rfl, HB1.out, .inr ⟨HOK.out, rfl, rfl⟩⟩
 | false =>
 obtain ⟨i0, hi, hz0, hz1, hz2⟩ := info_parts info_strC
 have HF : Hid (∀ m ∈ ms, fineM m = true) := Lib.hid (fun m hmem => by
  have := (List.any_eq_false.1 hR) m hmem
  simpa using this)
 have HM := Lib.hid hm
 have HR := Lib.hid hr
 have hln : ms.length ≤ 12 := by omega
 clear hR hm hr
 go_enter Tryz.func20, Tryz.ntmps20
 go_wp2_with fail
 refine kc.mono ?_
 rintro e w1 ⟨rfl, hb1⟩
 have hg := heap_alloc_new w1 (.cells #[.string ⟨#[34]⟩, .string ⟨#[92, 34]⟩, .string ⟨#[92]⟩, .string ⟨#[92, 92]⟩] 9)
 have kn := newrep_any _ w1.heap.size hg
 have HB1 := Lib.hid (hb1.trans ((alloc_below w1 (.cells #[.string ⟨#[34]⟩, .string ⟨#[92, 34]⟩, .string ⟨#[92]⟩, .string ⟨#[92, 92]⟩] 9)).mono hb1.size))
 clear kc hb1 hg
 go_wp2_with fail
 refine kn.mono ?_
 rintro e w2 ⟨b, rfl, hR2, hb2, hbb⟩
 have HB2 := Lib.hid (HB1.out.trans (hb2.mono HB1.out.size))
 have HR2 := Lib.hid hR2
 have HBB := Lib.hid (Nat.le_trans HB1.out.size hbb)
 clear kn hR2 hb2 hbb HB1
 go_wp2_with fail
 go_loopw [21, 6] (fun vi vl wr => ∃ (k N : Nat) (lv : Value) (xs : List ByteArray), vi = .int .i64 k ∧ lv = vl ∧ k ≤ ms.length ∧ xs.length = k ∧ Hid (xs.map B = (ms.take k).map oneB) ∧ Hid (wr.ownsRow N 9 1 lv k (xs.map Value.string)) ∧ Hid (RepAt wr b) ∧ Hid ((k = 0 ∧ lv = .slice none 0 0) ∨ RepS wr b N) ∧ Hid (Below w.heap.size w wr) ∧ w.heap.size ≤ N ∧ N ≤ wr.heap.size) (fun v _ _ => ms.length - (intOf v).toNat)
 case atStart => exact ⟨0, w2.heap.size, .slice none 0 0, [], rfl, rfl, Nat.zero_le _, rfl, Lib.hid rfl, Lib.hid (World.ownsRow_nil _ _ _ _), HR2, Lib.hid (.inl ⟨rfl, rfl⟩), HB2, HB2.out.size, Nat.le_refl _⟩
 case round =>
  clear HR2 HB2
  obtain ⟨k, N, lv, xs, rfl, rfl, hk, hxl, HX, HOW, HRA, HRS, HB, hN0, hN1⟩ := hrel
  by_cases hkl : k < ms.length
  ·obtain ⟨g, o, rfl, hg, hcell⟩ := HR.out (by omega)
   obtain ⟨x, hx⟩ : ∃ x, ms[k] = x := ⟨_, rfl⟩
   obtain ⟨hfx1, hfx2⟩ := hfit _ (List.getElem_mem hkl)
   have hfine := HF.out _ (List.getElem_mem hkl)
   have hfm := fineM_true hfine
   obtain ⟨q0, q1, q2⟩ := mtCells_at ms k hkl
   rw [hx] at q0 q1 q2 hfx1 hfx2 hfine hfm
   have p0 := keep_cell (hcell _ _ q0) HB.out hg
   have p1 := keep_cell (hcell _ _ q1) HB.out hg
   have p2 := keep_cell (hcell _ _ q2) HB.out hg
   rw [← Nat.add_assoc] at p1 p2
   have HXX := Lib.hid hx
   clear hx q0 q1 q2 hcell
   obtain ⟨nm, op, val⟩ := x
   obtain ⟨hn1, hop0, hop3, hval, _⟩ := hfm
   dsimp only at *
   have HFIN := Lib.hid hfine
   clear hfine hn1
   go_upto_region 9 with fail
   change Code.wp _ _ _ _ (wr.alloc (.cells #[.string nm, .int .i64 op, .string val] 29))
   have hba := alloc_below wr (.cells #[.string nm, .int .i64 op, .string val] 29)
   have r0 : (wr.alloc (.cells #[.string nm, .int .i64 op, .string val] 29)).cell? ⟨wr.heap.size, 0, none⟩ = some (.string nm) := World.cell?_alloc_at _ _ _ _ rfl
   have r1 : (wr.alloc (.cells #[.string nm, .int .i64 op, .string val] 29)).cell? ⟨wr.heap.size, 1, none⟩ = some (.int .i64 op) := World.cell?_alloc_at _ _ _ _ rfl
   have r2 : (wr.alloc (.cells #[.string nm, .int .i64 op, .string val] 29)).cell? ⟨wr.heap.size, 2, none⟩ = some (.string val) := World.cell?_alloc_at _ _ _ _ rfl
   have hlx : wr.heap.size < (wr.alloc (.cells #[.string nm, .int .i64 op, .string val] 29)).heap.size := by rw [World.size_alloc]; omega
   have hbx : b < wr.heap.size := HRA.out.lt
   clear p0 p1 p2
   generalize wr.alloc (.cells #[.string nm, .int .i64 op, .string val] 29) = wa at *
   have HBA := Lib.hid hba
   have SK : Hid (∀ W : World, Below wa.heap.size wa W → W.cell? ⟨wr.heap.size, 0, none⟩ = some (.string nm) ∧ W.cell? ⟨wr.heap.size, 1, none⟩ = some (.int .i64 op) ∧ W.cell? ⟨wr.heap.size, 2, none⟩ = some (.string val)) := Lib.hid (fun W h => ⟨keep_cell r0 h hlx, keep_cell r1 h hlx, keep_cell r2 h hlx⟩)
   have SG : Hid (∀ W W' : World, wr.heap.size < W.heap.size → W.grownBy W' (some b) → W.cell? ⟨wr.heap.size, 0, none⟩ = some (.string nm) ∧ W.cell? ⟨wr.heap.size, 1, none⟩ = some (.int .i64 op) ∧ W.cell? ⟨wr.heap.size, 2, none⟩ = some (.string val) → W'.cell? ⟨wr.heap.size, 0, none⟩ = some (.string nm) ∧ W'.cell? ⟨wr.heap.size, 1, none⟩ = some (.int .i64 op) ∧ W'.cell? ⟨wr.heap.size, 2, none⟩ = some (.string val)) := Lib.hid (fun W W' hl hg h => by
    have e := hg.block wr.heap.size hl (fun e => by have := Option.some.inj e; omega)
    exact ⟨(World.cell?_of_block (w := W) (a := ⟨wr.heap.size, 0, none⟩) e).trans h.1, (World.cell?_of_block (w := W) (a := ⟨wr.heap.size, 1, none⟩) e).trans h.2.1, (World.cell?_of_block (w := W) (a := ⟨wr.heap.size, 2, none⟩) e).trans h.2.2⟩)
   have KR := Lib.hid (fun W (h : RepAt W b) (hN : N ≤ W.heap.size) => rrep_any W b N val h hN (by omega))
   have HLX := Lib.hid hlx
   have HBX := Lib.hid hbx
   clear hba hlx hbx
   have hidx := run_index_words op hop0 hop3
   have hnz : nm.size ≤ 12 := by
    have := oneB_nm HFIN.out
    exact this
   have hwz := wordS_size op
   have z1 : ¬ 9223372036854775807 < nm.size + (wordS op).size := by omega
   have z2 : ¬ 9223372036854775807 < nm.size + (wordS op).size + 1 := by omega
   clear hop0 hop3
   refine wp_region_held_drew (S := (fun W => W.cell? ⟨wr.heap.size, 0, none⟩ = some (.string nm) ∧ W.cell? ⟨wr.heap.size, 1, none⟩ = some (.int .i64 op) ∧ W.cell? ⟨wr.heap.size, 2, none⟩ = some (.string val))) (by kernel_rfl) (SK.out _ ((Below.refl _ _).drew)) (fun hHeld => ?_)
   have hbd : Below wa.heap.size wa wa.drew := (Below.refl _ _).drew
   have HBD := Lib.hid hbd
   clear hbd
   generalize wa.drew = wd at *
   refine plIn [0, 1, 2, 4, 5, 9, 10, 11] ?_
   iterate 8
    refine hP (v := ?_) rfl rfl hHeld ?_ ?_
    rotate_left
    ·rintro wh ⟨z0, z1, z2⟩
     go_simp
     (try with_reducible rfl)
    simp only [Act.put, List.setIfInBounds_toArray, List.set_cons_zero, List.set_cons_succ]
   refine plOut ?_
   refine held_call (i := 3) rfl (by kernel_rfl) (by rfl) (fun K hK => ?_)
   go_simp; refine (words_any _).mono ?_; rintro e w3 ⟨rfl, hb3⟩; have HB3 := Lib.hid (HBD.out.trans (hb3.mono HBD.out.size)); have HW3 := Lib.hid (HBA.out.trans (HB3.out.mono HBA.out.size)); clear hb3
   refine hK.out _ _ (SK.out _ HB3.out) (fun hHeld => ?_)
   clear hK K
   (try simp only [Act.put, List.setIfInBounds_toArray, List.set_cons_zero, List.set_cons_succ])
   refine plIn [6, 7, 8] ?_
   iterate 3
    refine hP (v := ?_) rfl rfl hHeld ?_ ?_
    rotate_left
    ·rintro wh ⟨z0, z1, z2⟩
     go_simp
     (try with_reducible rfl)
    simp only [Act.put, List.setIfInBounds_toArray, List.set_cons_zero, List.set_cons_succ]
   refine plOut ?_
   refine held_call (i := 12) rfl (by kernel_rfl) (by rfl) (fun K hK => ?_)
   go_simp; refine (KR.out w3 (HRA.out.later HW3.out) (Nat.le_trans hN1 HW3.out.size)).mono ?_; rintro e w4 ⟨r, rfl, hr, hg4, hS4, hK4⟩; obtain ⟨M, hM0, hM1, hMS, hMO⟩ := rep_step HOW.out HRS.out HW3.out hN1 hg4 hS4 hK4; have HSS := Lib.hid (SG.out w3 w4 (Nat.lt_of_lt_of_le HLX.out HB3.out.size) hg4 (SK.out w3 HB3.out)); have HMS := Lib.hid hMS; have HMO := Lib.hid hMO; have HRR := Lib.hid hr; have hrz := esc_size hr hval; have z3 : ¬ 9223372036854775807 < nm.size + (wordS op).size + 1 + r.size := (by omega); have z4 : ¬ 9223372036854775807 < nm.size + (wordS op).size + 1 + r.size + 1 := (by omega); have HG4 := Lib.hid hg4; have HL4 := Lib.hid (Nat.lt_of_lt_of_le HLX.out (Nat.le_trans HB3.out.size hg4.size)); have HW4 := Lib.hid ((HB.out.trans (HW3.out.mono HB.out.size)).grown hg4 (Nat.le_trans HB.out.size HW3.out.size) (fun q hq => by have := Option.some.inj hq; have := HBB.out; omega)); clear hr hg4 hS4 hK4 hMS hMO
   refine hK.out _ _ HSS.out (fun hHeld => ?_)
   clear hK K
   (try simp only [Act.put, List.setIfInBounds_toArray, List.set_cons_zero, List.set_cons_succ])
   refine plIn [13, 14] ?_
   iterate 2
    refine hP (v := ?_) rfl rfl hHeld ?_ ?_
    rotate_left
    ·rintro wh ⟨z0, z1, z2⟩
     go_simp
     (try with_reducible rfl)
    simp only [Act.put, List.setIfInBounds_toArray, List.set_cons_zero, List.set_cons_succ]
   refine plOut ?_
   refine held_step (i := 15) rfl (by kernel_rfl) (fun K hK => ?_)
   go_simp
   refine hK.out _ _ ⟨keep_cell HSS.out.1 (alloc_below _ _) HL4.out, keep_cell HSS.out.2.1 (alloc_below _ _) HL4.out, keep_cell HSS.out.2.2 (alloc_below _ _) HL4.out⟩ (fun hHeld => ?_)
   clear hK K
   (try simp only [Act.put, List.setIfInBounds_toArray])
   refine held_step (i := 16) rfl (by kernel_rfl) (fun K hK => ?_)
   refine step_append_rdD 41 (by rfl) (by rfl) (.tmp 25) (.tmp 40) _ (by rfl) M 9 i0 (.string ⟨#[]⟩) 1 16 Tryz.underlying49 hi hz0 hz1 hz2 rfl (by decide) lv k (xs.map Value.string) (by rfl) (own_later HMO.out (alloc_below _ _)) _ 1 [.string (nm ++ wordS op ++ ⟨#[34]⟩ ++ r ++ ⟨#[34]⟩)] (by rfl) (row_str _ _) (by simp [Value.oneCell']) (by unfold maxLen; omega) (by omega) (by rw [World.size_alloc]; omega) ?_; intro v' w6 hown6 hgrow6 hat6; have HB46 := Lib.hid ((((alloc_below w4 (.cells #[.string (nm ++ wordS op ++ ⟨#[34]⟩ ++ r ++ ⟨#[34]⟩)] 9)).mono hM1).grown hgrow6 (by rw [World.size_alloc]; omega) (fun q hq => (HMO.out.lt q hq).1)) : Below M w4 w6); have HO6 := Lib.hid hown6; have HS6 := Lib.hid (HMS.out.keep HB46.out); have hle6 : M ≤ w6.heap.size := Nat.le_trans hM1 HB46.out.size; have he6 := hgrow6.block wr.heap.size (by rw [World.size_alloc]; have := HL4.out; omega) (fun e => by have := (HOW.out.lt _ e.symm).2; omega); have HSX := Lib.hid (cell3_block he6 ⟨keep_cell HSS.out.1 (alloc_below _ _) HL4.out, keep_cell HSS.out.2.1 (alloc_below _ _) HL4.out, keep_cell HSS.out.2.2 (alloc_below _ _) HL4.out⟩); clear he6 hown6 hgrow6 hat6
   refine hK.out _ _ HSX.out (fun hHeld => ?_)
   clear hK K
   (try simp only [Act.put, List.setIfInBounds_toArray])
   refine hT (i := 17) (v := ?_) rfl rfl hHeld ?_ ?_
   rotate_left
   ·rintro wh ⟨z0, z1, z2⟩
    go_simp
    (try with_reducible rfl)
   simp only [Act.put, List.setIfInBounds_toArray, List.set_cons_zero, List.set_cons_succ]
   refine wpAnyH_done (by kernel_rfl) ?_ _
   clear SK SG KR HB3 HW3 HSS HL4 hidx
   go_wp2
   go_roundw
   case rel => exact ⟨k + 1, M, v', xs ++ [nm ++ wordS op ++ ⟨#[34]⟩ ++ r ++ ⟨#[34]⟩], by go_num, rfl, by omega, by rw [List.length_append, hxl]; rfl, Lib.hid (by rw [List.map_append, HX.out, List.take_succ_eq_append_getElem hkl, List.map_append, HXX.out]; congr 1; simp only [List.map_cons, List.map_nil, B_append, HRR.out]; simp [oneB, wordS, B]), Lib.hid (by rw [List.map_append]; exact HO6.out), Lib.hid HS6.out.at_, Lib.hid (.inr HS6.out), Lib.hid (HW4.out.trans (HB46.out.mono (Nat.le_trans hN0 hM0))), Nat.le_trans hN0 hM0, hle6⟩
   case measure => (simp [intOf]; try omega)
  ·obtain rfl : k = ms.length := by omega
   have HXF : Hid (xs.map B = ms.map oneB) := Lib.hid (by rw [HX.out, List.take_length])
   have hjl : (Lib.join (xs.map B) [44]).length ≤ 140737488355328 := by
    rw [HXF.out, join_textB]
    have := textB_len ms (List.all_eq_true.2 HF.out)
    omega
   have hJ : StrsAt wr lv xs := ⟨by have := RdAt.own HOW.out; rw [← hxl] at this; exact this, by omega⟩
   have kj := sjoinM_any wr (v := lv) ⟨#[44]⟩ hJ hjl
   have HJ := Lib.hid (show Lib.join (xs.map B) [44] = textB ms by rw [HXF.out, join_textB])
   have HWR := Lib.hid HB.out
   clear hJ hjl HX HXF HOW HRA HRS HB
   go_wp2_with fail
   refine kj.mono ?_
   rintro e w5 ⟨s, rfl, hs, hb5⟩
   have HS := Lib.hid hs
   have HB5 := Lib.hid (HWR.out.trans (hb5.mono HWR.out.size))
   clear kj hs hb5
   go_wp2
   go_ret2
   exact ⟨s, 0, rfl, HB5.out, .inl ⟨HOK.out, rfl, HS.out.trans HJ.out⟩⟩
end Go.Proofs.YtgbapkechngnmaaGreat
/- strings.IndexAny at the chars = and !, any text: a contract. -/
namespace Go.Proofs.YtgbapkechngnmaaGreat
open Go.RowKit
def idxS (l : List UInt8) : Int := if l.any signB then ((l.takeWhile fun c => !signB c).length : Int) else -1
theorem idxS_cons (c : UInt8) (l : List UInt8) : idxS (c :: l) = if signB c then 0 else if idxS l = -1 then -1 else idxS l + 1 := by
 unfold idxS
 cases h : signB c with
 | true => simp [h]
 | false =>
  simp only [List.any_cons, h, Bool.false_or, List.takeWhile_cons, Bool.not_false, if_true, List.length_cons, Bool.false_eq_true, if_false]
  cases h2 : l.any signB with
  | true =>
   rw [if_pos rfl, if_pos rfl, if_neg (by omega)]
   omega
  | false => simp
theorem idxS_skip : ∀ (a l : List UInt8), a.any signB = false → idxS (a ++ l) = if idxS l = -1 then -1 else idxS l + a.length
 | [], l, _ => by
  rw [List.nil_append]
  split
  ·assumption
  ·simp
 | c :: a, l, h => by
  rw [List.any_cons, Bool.or_eq_false_iff] at h
  rw [List.cons_append, idxS_cons, h.1, idxS_skip a l h.2]
  simp only [Bool.false_eq_true, if_false, List.length_cons]
  have : -1 ≤ idxS l := by unfold idxS; split <;> omega
  split
  ·simp
  ·rw [if_neg (by omega)]; omega
theorem indexAny_sign : ∀ l : List UInt8, Lib.indexAny l [61, 33] = idxS l
 | [] => rfl
 | c :: l => by
  rw [idxS_cons, ← indexAny_sign l, Lib.indexAny]
  have e : ([61, 33] : List UInt8).contains c = signB c := by
   unfold signB
   simp only [List.contains, List.elem]
   cases c == 61 <;> cases c == 33 <;> rfl
  rw [e]
  by_cases h : signB c = true
  ·rw [if_pos h, if_pos h]
  ·rw [if_neg h, if_neg h]
   by_cases h2 : Lib.indexAny l [61, 33] = -1
   ·rw [h2]; rfl
   ·rw [if_neg h2, if_neg (by simpa using h2)]
def signR (x : Nat) : Bool := x == 61 || x == 33
theorem signR_byte (c : UInt8) : signR c.toNat = signB c := by
 unfold signR signB
 rw [Bool.eq_iff_iff]
 simp only [Bool.or_eq_true, beq_iff_eq]
 constructor
 ·rintro (h | h)
  ·exact .inl (UInt8.toNat_inj.1 h)
  ·exact .inr (UInt8.toNat_inj.1 h)
 ·rintro (rfl | rfl)
  ·exact .inl rfl
  ·exact .inr rfl
theorem idxFunc_sign (s : ByteArray) : ∀ (f pos : Nat), s.size ≤ pos + f → Lib.idxFuncFrom signR true s f pos = if idxS ((B s).drop pos) = -1 then -1 else idxS ((B s).drop pos) + pos
 | 0, pos, h => by
  rw [List.drop_of_length_le (by rw [len_B]; omega)]
  rfl
 | f + 1, pos, h => by
  unfold Lib.idxFuncFrom
  by_cases hps : pos < s.size
  ·rw [if_pos hps]
   have ed : (B s).drop pos = s[pos] :: (B s).drop (pos + 1) := by
    rw [List.drop_eq_getElem_cons (by rw [len_B]; exact hps)]; rfl
   by_cases ha : (s[pos]'hps).toNat < 128
   ·rw [decode_ascii s pos hps ha, ed, idxS_cons]
    show (if signR s[pos].toNat = true then (pos : Int) else _) = _
    rw [signR_byte]
    by_cases hpp : signB s[pos] = true
    ·rw [if_pos hpp, if_pos hpp, if_neg (by decide)]; omega
    ·rw [if_neg hpp, if_neg hpp, idxFunc_sign s f (pos + 1) (by omega)]
     have : -1 ≤ idxS ((B s).drop (pos + 1)) := by unfold idxS; split <;> omega
     by_cases h1 : idxS ((B s).drop (pos + 1)) = -1
     ·rw [if_pos h1, if_pos h1, if_pos rfl]
     ·rw [if_neg h1, if_neg h1, if_neg (by omega)]; omega
   ·obtain ⟨d1, d2, d3, d4⟩ := decode_high s pos hps (by omega)
    rw [if_neg (by unfold signR; simp; omega), idxFunc_sign s f _ (by omega)]
    generalize (Utf8.decode s pos).2 = w at *
    have ed2 : (B s).drop pos = ((B s).drop pos).take w ++ (B s).drop (pos + w) := by
     rw [← List.drop_drop]; exact (List.take_append_drop _ _).symm
    have hno : (((B s).drop pos).take w).any signB = false := by
     rw [List.any_eq_false]
     intro x hx
     obtain ⟨i, hi, rfl⟩ := List.getElem_of_mem hx
     simp only [List.getElem_take, List.getElem_drop]
     have hi' : i < w := by rw [List.length_take] at hi; omega
     have h3 := d4 (pos + i) (by omega) (by omega) (by omega)
     rw [← signR_byte]
     unfold signR
     simp only [Bool.or_eq_true, beq_iff_eq, not_or]
     have h4 : (B s)[pos + i]'(by rw [len_B]; omega) = s[pos + i]'(by omega) := rfl
     rw [h4]
     omega
    have hlw : (((B s).drop pos).take w).length = w := by rw [List.length_take, List.length_drop, len_B]; omega
    rw [ed2, idxS_skip _ _ hno, hlw]
    have : -1 ≤ idxS ((B s).drop (pos + w)) := by unfold idxS; split <;> omega
    by_cases h1 : idxS ((B s).drop (pos + w)) = -1
    ·rw [if_pos h1, if_pos h1, if_pos rfl]
    ·rw [if_neg h1, if_neg h1, if_neg (by omega)]; omega
  ·rw [if_neg hps, List.drop_of_length_le (by rw [len_B]; omega)]
   rfl
set_option maxHeartbeats 1600000 in
set_option maxRecDepth 100000 in
theorem irune_hi (x : Nat) (h : 128 ≤ x) (w : World) : Calls Tryz.prog 97 #[.string ⟨#[61, 33]⟩, .int .i32 x] w fun e w' => e = .returned (.int .i64 (-1)) ∧ Below w.heap.size w w' := by
 have h0 : (0 : Int) ≤ (x : Int) := by omega
 have h1 : ¬ ((x : Int) < 128) := by omega
 have h1' : decide ((x : Int) < 128) = false := decide_eq_false h1
 by_cases hx : x = 65533
 ·subst hx
  have n0 := fun ty => run_next_ascii (P := Tryz.prog) w (⟨#[61, 33]⟩ : ByteArray) 0 ty (by decide) (by decide)
  have n1 := fun ty => run_next_ascii (P := Tryz.prog) w (⟨#[61, 33]⟩ : ByteArray) 1 ty (by decide) (by decide)
  have n2 := run_next_end (P := Tryz.prog) w (⟨#[61, 33]⟩ : ByteArray) 2
  have hB : ∀ i, Below w.heap.size w (w.iter ⟨#[61, 33]⟩ i) := fun i => (Below.refl _ w).alloc (Nat.le_refl _) _
  go_enter Tryz.func97, Tryz.ntmps97
  go_wp2
  refine wp_loop_rounds 3 ?_
  rw [rounds_succ]
  go_wp2
  rw [rounds_succ]
  go_wp2
  rw [rounds_succ]
  go_wp2
  go_ret
  exact ⟨rfl, hB _⟩
 ·have hx' : ((x : Int) == 65533) = false := by rw [beq_eq_false_iff_ne]; omega
  cases hv : Lib.validRune x with
  | false =>
   have kv := Tryz.utf8_ValidRune x w
   rw [hv] at kv
   go_enter Tryz.func97, Tryz.ntmps97
   go_wp2_with fail
   refine kv.mono ?_
   rintro e w1 ⟨rfl, rfl⟩
   clear kv
   go_wp2
   go_ret
   exact ⟨rfl, Below.refl _ _⟩
  | true =>
   have kv := Tryz.utf8_ValidRune x w
   rw [hv] at kv
   have hval : Utf8.valid x = true := by
    unfold Lib.validRune at hv
    unfold Utf8.valid
    simp at hv ⊢
    omega
   obtain ⟨e1, e2, e3⟩ := encode_facts x hval (by omega)
   obtain ⟨E, hE⟩ : ∃ E, Utf8.encode (x : Int) = E := ⟨_, rfl⟩
   rw [hE] at e1 e2 e3
   have hcv : (convert 21 9 (.int .i32 x)).run Tryz.prog w = .ok (.string E) w := by
    rw [← hE]; exact run_convert_int_string w _ _ _ _ (by rw [Tryz.underlying21]; rfl) Tryz.underlying9
   have h3 := e3 (by omega)
   clear hv hval hE e3
   by_cases h2 : E.size = 2
   ·obtain ⟨a, b, rfl⟩ : ∃ a b, E = ⟨#[a, b]⟩ := by
     obtain ⟨⟨l⟩⟩ := E
     match l, h2 with
     | [a, b], _ => exact ⟨a, b, rfl⟩
    have hb : 128 ≤ b.toNat := h3
    have e33 : ((⟨#[61, 33]⟩ : ByteArray)[1]'(by decide)).toNat = 33 := rfl
    have eb : ((⟨#[a, b]⟩ : ByteArray)[1]'(by show 1 < 2; decide)).toNat = b.toNat := rfl
    have hne : ((33 : Int) != (b.toNat : Int)) = true := by rw [bne_iff_ne]; omega
    have hi := fun s' W => Tryz.strings_IndexByte s' (b.toNat : Int) W
    clear h2 h3 e1 e2
    go_enter Tryz.func97, Tryz.ntmps97
    go_wp2_with fail
    refine kv.mono ?_
    rintro e w1 ⟨rfl, rfl⟩
    clear kv
    go_wp2
    go_step3
    go_wp2
    refine wp_loop_rounds 1 ?_
    rw [rounds_succ]
    go_wp2
    go_step3
    go_wp2
    go_quiet (fail)
    go_wp2_with fail
    go_region_with (go_at_call 122; refine (hi _ _).mono ?_; rintro e w2 ⟨rfl, rfl⟩)
    all_goals
     go_wp2_with fail
     rw [Exit.noGoto_ret]
     try simp only [Exit.inBlock, Exit.then]
     try rw [Exit.noGoto_ret]
     go_ret
     exact ⟨rfl, bl_drewN (Below.refl _ _) _⟩
   ·have hs : ¬ ((E.size : Int) - 1 < 2) := by omega
    have hs' : decide ((E.size : Int) - 1 < 2) = false := decide_eq_false hs
    go_enter Tryz.func97, Tryz.ntmps97
    go_wp2_with fail
    refine kv.mono ?_
    rintro e w1 ⟨rfl, rfl⟩
    clear kv
    go_wp2
    go_step3
    go_wp2
    refine wp_loop_rounds 1 ?_
    rw [rounds_succ]
    go_wp2
    rw [Exit.noGoto_ret]
    go_ret
    exact ⟨rfl, Below.refl _ _⟩
theorem irune_any (x : Nat) (w : World) : Calls Tryz.prog 97 #[.string ⟨#[61, 33]⟩, .int .i32 x] w fun e w' => ∃ i : Int, e = .returned (.int .i64 i) ∧ decide (0 ≤ i) = signR x ∧ Below w.heap.size w w' := by
 by_cases h : x < 128
 ·refine (Tryz.strings_IndexRune_ascii ⟨#[61, 33]⟩ x w (by omega) (by omega)).mono ?_
  rintro e w' ⟨rfl, rfl⟩
  refine ⟨_, rfl, ?_, Below.refl _ _⟩
  unfold signR
  by_cases h1 : x = 61
  ·subst h1; rfl
  ·by_cases h2 : x = 33
   ·subst h2; rfl
   ·have e1 : ((x : Int).toNat.toUInt8 == (61 : UInt8)) = false := by
     rw [beq_eq_false_iff_ne]
     intro e
     have := congrArg UInt8.toNat e
     simp at this
     omega
    have e2 : ((x : Int).toNat.toUInt8 == (33 : UInt8)) = false := by
     rw [beq_eq_false_iff_ne]
     intro e
     have := congrArg UInt8.toNat e
     simp at this
     omega
    rw [beq_eq_false_iff_ne.2 h1, beq_eq_false_iff_ne.2 h2]
    have hn : ¬ (x : Int).toNat.toUInt8 = 61 := by simpa using e1
    have hm : ¬ (x : Int).toNat.toUInt8 = 33 := by simpa using e2
    show _ = false
    rw [decide_eq_false_iff_not]
    have hcon := Lib.contains_iff_indexByte [61, 33] (x : Int).toNat.toUInt8
    have hc : ([61, 33] : List UInt8).contains (x : Int).toNat.toUInt8 = false := by
     simp only [List.contains, List.elem, e1, e2]
    rw [hc] at hcon
    exact of_decide_eq_false hcon.symm
 ·refine (irune_hi x (by omega) w).mono ?_
  rintro e w' ⟨rfl, hb⟩
  exact ⟨_, rfl, by unfold signR; simp; omega, hb⟩
set_option maxHeartbeats 1600000 in
set_option maxRecDepth 100000 in
theorem iany_short (s : ByteArray) (w : World) (h8 : s.size ≤ 8) :
  Calls Tryz.prog 77 #[.string s, .string ⟨#[61, 33]⟩] w fun e w' => e = .returned (.int .i64 (Lib.idxFunc signR true s)) ∧ Below w.heap.size w w' := by
 have h8z : decide ((8 : Int) < (s.size : Int)) = false := decide_eq_false (by omega)
 have hu := Tryz.strings_shouldUseASCIISet s.size w
 rw [h8z] at hu
 go_enter Tryz.func77, Tryz.ntmps77
 go_wp2_with fail
 refine hu.mono ?_
 rintro e w1 ⟨rfl, rfl⟩
 clear hu
 go_wp2
 go_loopg [9, 10] s.size (fun gf _ _ wx => ∃ pos : Nat, wx.heap[w1.heap.size]? = some (.stringIter s pos) ∧ Below w1.heap.size w1 wx ∧ Hid (Lib.idxFuncFrom signR true s gf pos = Lib.idxFunc signR true s) ∧ s.size ≤ pos + gf)
 case atStart => exact ⟨0, World.iter_heap w1 s 0, (Below.refl _ w1).alloc (Nat.le_refl _) _, Lib.hid rfl, by omega⟩
 case round =>
  obtain ⟨pos, hit, hbw, hleft, hfu⟩ := hrel
  by_cases hps : pos < s.size
  ·obtain ⟨g', rfl⟩ : ∃ g', gk = g' + 1 := ⟨gk - 1, by omega⟩
   have hnx : ∀ ty, (Instr.next (.pointer (some ⟨w1.heap.size, 0, none⟩)) true ty).run Tryz.prog wr = _ := fun ty => Lib.run_next_any_at wr w1.heap.size s pos ty hit hps
   have hwd := Lib.width_pos s pos
   obtain ⟨R, hR⟩ : ∃ R, (Utf8.decode s pos).1 = R := ⟨_, rfl⟩
   obtain ⟨K, hK⟩ : ∃ K, (Utf8.decode s pos).2 = K := ⟨_, rfl⟩
   have hl := hleft.out
   simp only [Lib.idxFuncFrom, hps, if_true, hR, hK] at hl
   rw [hR, hK] at hnx
   rw [hK] at hwd
   have hit2 := Lib.iterAt_heap wr w1.heap.size s pos (pos + K) hit
   have hbw2 := Lib.below_iterAt hbw (k := w1.heap.size) (Nat.le_refl _) s (pos + K)
   obtain ⟨W, hWd⟩ : ∃ W, wr.iterAt w1.heap.size s (pos + K) = W := ⟨_, rfl⟩
   rw [hWd] at hnx hit2 hbw2
   have cS := irune_any R W
   have hltW : w1.heap.size < W.heap.size := (Array.getElem?_eq_some_iff.1 hit2).1
   have HL := Lib.hid hl
   have HB2 := Lib.hid hbw2
   have HI2 := Lib.hid hit2
   clear hl hbw hit hleft hbw2 hit2 hR hK
   go_wp2_with fail
   refine cS.mono ?_
   rintro e w3 ⟨i, rfl, hi, hb3⟩
   have HB3 := Lib.hid (HB2.out.trans (hb3.mono HB2.out.size))
   have HI3 := Lib.hid ((hb3.block _ hltW).trans HI2.out)
   clear cS hb3
   by_cases hge : (0 : Int) ≤ i
   ·have hs : signR R = true := by rw [← hi]; exact decide_eq_true hge
    have hl := HL.out
    rw [hs] at hl
    simp only [if_true] at hl
    have HLL := Lib.hid hl
    clear hl hi HL
    go_wp2
    go_ret
    exact ⟨by rw [← HLL.out]; rfl, HB3.out⟩
   ·have hs : signR R = false := by rw [← hi]; exact decide_eq_false hge
    have hl := HL.out
    rw [hs] at hl
    simp only [Bool.false_eq_true, if_false] at hl
    have HLL := Lib.hid hl
    clear hl hi HL
    go_wp2
    go_roundg g'
    case measure => omega
    case rel => exact ⟨pos + K, HI3.out, HB3.out, HLL, by omega⟩
  ·have hnx : ∀ ty, (Instr.next (.pointer (some ⟨w1.heap.size, 0, none⟩)) true ty).run Tryz.prog wr = _ := fun ty => Lib.run_next_end_at wr w1.heap.size s pos ty hit hps
   have hl := hleft.out
   rw [Lib.idxFuncFrom_end signR true s gk pos hps] at hl
   have HLL := Lib.hid hl
   clear hl hleft
   go_wp2
   go_ret
   exact ⟨by rw [← HLL.out]; rfl, hbw⟩
theorem info_set : (Tryz.prog.info? 148).map (fun i => (i.zero, i.size)) = some (some (.agg (Array.replicate 256 (.bool false))), 256) := by kernel_rfl
theorem zero_set (w : World) : (zeroValue 148).run Tryz.prog w = .ok (.agg (Array.replicate 256 (.bool false))) w := by
 have h := info_set
 cases hq : Tryz.prog.info? 148 with
 | none => rw [hq] at h; cases h
 | some i =>
  rw [hq] at h
  simp only [Option.map_some, Option.some.injEq, Prod.mk.injEq] at h
  simp [zeroValue, typeInfo, hq, h.1]
theorem iany_any (s : ByteArray) (w : World) (hs : s.size ≤ 1000000) :
  Calls Tryz.prog 77 #[.string s, .string ⟨#[61, 33]⟩] w fun e w' => e = .returned (.int .i64 (idxS (B s))) ∧ Below w.heap.size w w' := by
 by_cases h8 : s.size ≤ 8
 ·refine (iany_short s w h8).mono ?_
  rintro e w' ⟨rfl, hb⟩
  refine ⟨?_, hb⟩
  rw [Lib.idxFunc, idxFunc_sign s s.size 0 (by omega), List.drop_zero]
  by_cases h : idxS (B s) = -1
  ·rw [if_pos h, h]
  ·rw [if_neg h]; simp
 ·refine (Tryz.strings_IndexAny_long zero_set s ⟨#[61, 33]⟩ w (by decide) (by omega) (by omega) (by decide) (fun j b hj => ?_)).mono ?_
  ·match j, hj with
   | 0, hj => simp at hj; subst hj; decide
   | 1, hj => simp at hj; subst hj; decide
   | j + 2, hj => simp at hj
  ·rintro e w' ⟨rfl, rfl⟩
   refine ⟨?_, ((Below.refl _ w).alloc (Nat.le_refl _) _).alloc (by rw [World.size_alloc]; omega) _⟩
   rw [← indexAny_sign]
end Go.Proofs.YtgbapkechngnmaaGreat
/- match.one: a contract. -/
namespace Go.Proofs.YtgbapkechngnmaaGreat
open Go.RowKit
/-! plain -/
theorem idxS_none {l : List UInt8} (h : l.any signB = false) : l.dropWhile (fun c => !signB c) = [] := by
  induction l with
  | nil => rfl
  | cons c l ih =>
    rw [List.any_cons, Bool.or_eq_false_iff] at h
    rw [List.dropWhile_cons, h.1]
    simp [ih h.2]
theorem oneR_nosign {l : List UInt8} (h : l.any signB = false) : oneR l = none := by
  unfold oneR
  rw [idxS_none h]
  rfl
def prefO (t : List UInt8) (o : Int) : Prop := ∃ r, t = wordB o ++ 34 :: r
theorem opB_none {t : List UInt8} (h : ∀ o : Int, 0 ≤ o → o ≤ 3 → ¬ prefO t o) : opB t = none := by
  cases ho : opB t with
  | none => rfl
  | some x =>
    obtain ⟨o, r⟩ := x
    obtain ⟨h1, h2, h3⟩ := word_op ho
    exact absurd ⟨r, h1⟩ (h o h2 h3)
theorem take_len_while (l : List UInt8) (p : UInt8 → Bool) : l.take (l.takeWhile p).length = l.takeWhile p := by
  conv => lhs; rw [← List.takeWhile_append_dropWhile (p := p) (l := l)]
  rw [List.takeWhile_append_dropWhile]
  induction l with
  | nil => rfl
  | cons c l ih =>
    rw [List.takeWhile_cons]
    split
    · simp [ih]
    · rfl
theorem drop_len_while (l : List UInt8) (p : UInt8 → Bool) : l.drop (l.takeWhile p).length = l.dropWhile p := by
  induction l with
  | nil => rfl
  | cons c l ih =>
    rw [List.takeWhile_cons, List.dropWhile_cons]
    split
    · simp [ih]
    · rfl
/-! what lies while a matcher is read -/
structure OneSt (w W : World) (p q : Nat) (nm : ByteArray) (op : Int) (vl : ByteArray) : Prop where
  p0 : W.cell? ⟨p, 0, none⟩ = some (.string ⟨#[]⟩)
  p1 : W.cell? ⟨p, 1, none⟩ = some (.int .i64 0)
  p2 : W.cell? ⟨p, 2, none⟩ = some (.string ⟨#[]⟩)
  q0 : W.cell? ⟨q, 0, none⟩ = some (.string nm)
  q1 : W.cell? ⟨q, 1, none⟩ = some (.int .i64 op)
  q2 : W.cell? ⟨q, 2, none⟩ = some (.string vl)
  tp : W.there p 0 3
  tq : W.there q 0 3
  bl : Below w.heap.size w W
  hp : w.heap.size ≤ p
  hq : w.heap.size ≤ q
  ne : q ≠ p
theorem OneSt.later {w W W' : World} {p q : Nat} {nm vl : ByteArray} {op : Int} (h : OneSt w W p q nm op vl) (hb : Below W.heap.size W W') : OneSt w W' p q nm op vl :=
  ⟨keep_cell h.p0 hb (cell_blt h.p0), keep_cell h.p1 hb (cell_blt h.p0), keep_cell h.p2 hb (cell_blt h.p0), keep_cell h.q0 hb (cell_blt h.q0), keep_cell h.q1 hb (cell_blt h.q0), keep_cell h.q2 hb (cell_blt h.q0),
   there_later h.tp hb (cell_blt h.p0), there_later h.tq hb (cell_blt h.q0), h.bl.trans (hb.mono h.bl.size), h.hp, h.hq, h.ne⟩
theorem OneSt.setOp {w W : World} {p q : Nat} {nm vl : ByteArray} {op : Int} (h : OneSt w W p q nm op vl) (o : Int) : OneSt w (W.setCell ⟨q, 1, none⟩ (.int .i64 o)) p q nm o vl :=
  ⟨by rw [cell_farC h.ne]; exact h.p0, by rw [cell_farC h.ne]; exact h.p1, by rw [cell_farC h.ne]; exact h.p2,
   by rw [World.cell?_setCell_other _ _ _ _ (by simp)]; exact h.q0, World.cell?_setCell_same _ _ _ h.q1, by rw [World.cell?_setCell_other _ _ _ _ (by simp)]; exact h.q2,
   World.there_setCells h.tp q 1 [.int .i64 o], World.there_setCells h.tq q 1 [.int .i64 o], h.bl.trans ((Below.refl _ _).setCell (p := ⟨q, 1, none⟩) h.hq _), h.hp, h.hq, h.ne⟩
theorem OneSt.setVal {w W : World} {p q : Nat} {nm vl : ByteArray} {op : Int} (h : OneSt w W p q nm op vl) (v : ByteArray) : OneSt w (W.setCell ⟨q, 2, none⟩ (.string v)) p q nm op v :=
  ⟨by rw [cell_farC h.ne]; exact h.p0, by rw [cell_farC h.ne]; exact h.p1, by rw [cell_farC h.ne]; exact h.p2,
   by rw [World.cell?_setCell_other _ _ _ _ (by simp)]; exact h.q0, by rw [World.cell?_setCell_other _ _ _ _ (by simp)]; exact h.q1, World.cell?_setCell_same _ _ _ h.q2,
   World.there_setCells h.tp q 2 [.string v], World.there_setCells h.tq q 2 [.string v], h.bl.trans ((Below.refl _ _).setCell (p := ⟨q, 2, none⟩) h.hq _), h.hp, h.hq, h.ne⟩
theorem there3 {w : World} {a b c : Value} {t : TypeId} : (w.alloc (.cells #[a, b, c] t)).there w.heap.size 0 3 := box_there (xs := #[a, b, c]) (Below.refl _ _)
theorem OneSt.new {w W1 : World} {nm : ByteArray} (hb : Below (w.alloc (.cells #[.string ⟨#[]⟩, .int .i64 0, .string ⟨#[]⟩] 29)).heap.size (w.alloc (.cells #[.string ⟨#[]⟩, .int .i64 0, .string ⟨#[]⟩] 29)) W1) :
    OneSt w (W1.alloc (.cells #[.string nm, .int .i64 0, .string ⟨#[]⟩] 29)) w.heap.size W1.heap.size nm 0 ⟨#[]⟩ := by
  obtain ⟨⟨x0, x1, x2⟩, hlt, hB1⟩ := box3m hb
  have ht := there_later (there3 (w := w) (a := .string ⟨#[]⟩) (b := .int .i64 0) (c := .string ⟨#[]⟩) (t := 29)) hb (by rw [World.size_alloc]; omega)
  have hba := alloc_below W1 (.cells #[.string nm, .int .i64 0, .string ⟨#[]⟩] 29)
  exact ⟨keep_cell x0 hba hlt, keep_cell x1 hba hlt, keep_cell x2 hba hlt, World.cell?_alloc_at _ _ _ _ rfl, World.cell?_alloc_at _ _ _ _ rfl, World.cell?_alloc_at _ _ _ _ rfl,
    there_later ht hba hlt, there3, hB1.trans (hba.mono hB1.size), Nat.le_refl _, hB1.size, by omega⟩
theorem results_agg3 {P : Program} {fn : Func} {p u v : Tmp} {ty : TypeId} (h : fn.results = #[.cell p ty, .tmp u, .tmp v]) (tmps : Array Value) (w : World) (g : Nat) (cs : List Value) (d : TypeDesc)
    (hp : tmps.getD p undef = .pointer (some ⟨g, 0, none⟩)) (hc : w.rangeAt g 0 cs) (hu : P.underlying ty = some d) (hd : d.isRow = true) (hi : (P.info? ty).map (·.size) = some cs.length) :
    (results fn tmps).run P w = .ok (.tuple #[.agg cs.toArray, tmps.getD u undef, tmps.getD v undef]) w := by
  have hp' : tmps[p]?.getD undef = .pointer (some ⟨g, 0, none⟩) := by simpa using hp
  simp [results, h, hp', asAddr, run_loadVar_mid (P := P) w g 0 ty cs d hc hu hd hi]
end Go.Proofs.YtgbapkechngnmaaGreat
/- match.one: a contract. (Region 13 is printed by wip/genmao.py.) -/
namespace Go.Proofs.YtgbapkechngnmaaGreat
open Go.RowKit
theorem B_take (s : ByteArray) (k : Nat) : B (s.extract 0 k) = (B s).take k := by
 show (s.extract 0 k).data.toList = _
 rw [ByteArray.data_extract, Array.toList_extract, List.extract_eq_take_drop]
 simp [B]
theorem hasPref_iff (t : List UInt8) (o : Int) : Lib.hasPrefix t (wordB o ++ [34]) = true ↔ prefO t o := by
 unfold Lib.hasPrefix prefO
 rw [List.isPrefixOf_iff_prefix]
 constructor
 ·rintro ⟨r, h⟩; exact ⟨r, by rw [← h]; simp⟩
 ·rintro ⟨r, h⟩; exact ⟨r, by rw [h]; simp⟩
theorem trimPref (r : List UInt8) (o : Int) : Lib.trimPrefix (wordB o ++ 34 :: r) (wordB o ++ [34]) = r := by
 unfold Lib.trimPrefix
 rw [show Lib.hasPrefix (wordB o ++ 34 :: r) (wordB o ++ [34]) = true from (hasPref_iff _ _).2 ⟨r, rfl⟩]
 simp
theorem escB_ge (l : List UInt8) : l.length ≤ (escB l).length := by rw [escB_len]; omega
theorem OneSt.putP {w W : World} {p q : Nat} {nm vl : ByteArray} {op : Int} (h : OneSt w W p q nm op vl) (vs : List Value) :
  (W.setCells p 0 vs).cell? ⟨q, 0, none⟩ = some (.string nm) ∧ (W.setCells p 0 vs).cell? ⟨q, 1, none⟩ = some (.int .i64 op) ∧ (W.setCells p 0 vs).cell? ⟨q, 2, none⟩ = some (.string vl) := by
 refine ⟨?_, ?_, ?_⟩ <;> rw [World.cell?_setCells_out _ _ _ _ _ (fun e _ => absurd e h.ne)]
 ·exact h.q0
 ·exact h.q1
 ·exact h.q2
def OneP (s : ByteArray) (m : Mt) (a : ByteArray) (ok : Bool) : Prop := (ok = true ∧ oneR (B s) = some (m, B a)) ∨ (ok = false ∧ oneR (B s) = none)
def OnePost (s : ByteArray) (w : World) (e : Ending) (w' : World) : Prop := ∃ (m : Mt) (a : ByteArray) (ok : Bool), e = .returned (.tuple #[.agg #[.string m.nm, .int .i64 m.op, .string m.val], .string a, .bool ok]) ∧ OneP s m a ok ∧ MtFit m ∧ a.size ≤ s.size ∧ Below w.heap.size w w'
theorem OnePost.mk {s : ByteArray} {w : World} {e : Ending} {w' : World} (m : Mt) (a : ByteArray) (ok : Bool) (h1 : e = .returned (.tuple #[.agg #[.string m.nm, .int .i64 m.op, .string m.val], .string a, .bool ok])) (h2 : OneP s m a ok) (h3 : MtFit m) (h4 : a.size ≤ s.size) (h5 : Below w.heap.size w w') : OnePost s w e w' :=
 ⟨m, a, ok, h1, h2, h3, h4, h5⟩
set_option maxHeartbeats 1600000 in
set_option maxRecDepth 100000 in
theorem mone_any (s : ByteArray) (w : World) (hs : s.size ≤ 900000) :
  Calls Tryz.prog 52 #[.string s] w (OnePost s w) := by
 have hba := alloc_below w (.cells #[.string ⟨#[]⟩, .int .i64 0, .string ⟨#[]⟩] 29)
 have ki := iany_any s (w.alloc (.cells #[.string ⟨#[]⟩, .int .i64 0, .string ⟨#[]⟩] 29)) (by omega)
 have HBA := Lib.hid hba
 cases hany : (B s).any signB with
 | false =>
  have hidx : idxS (B s) = -1 := by unfold idxS; rw [hany]; rfl
  have HNONE := Lib.hid (oneR_nosign hany)
  rw [hidx] at ki
  clear hba hany hidx
  go_enter Tryz.func52, Tryz.ntmps52
  go_wp2_with fail
  refine ki.mono ?_
  rintro e w1 ⟨rfl, hb1⟩
  obtain ⟨⟨x0, x1, x2⟩, hlt, hB1⟩ := box3m hb1
  have ht := there_later (there3 (w := w) (a := .string ⟨#[]⟩) (b := .int .i64 0) (c := .string ⟨#[]⟩) (t := 29)) hb1 (by rw [World.size_alloc]; omega)
  have f0 := there_free ht 0 (by omega)
  have f1 := there_free ht 1 (by omega)
  have f2 := there_free ht 2 (by omega)
  have HB1 := Lib.hid hB1
  have HT := Lib.hid ht
  clear ki hb1 hB1 ht
  go_wp2
  refine bodyPost_ret (results_agg3 rfl _ _ w.heap.size [.string ⟨#[]⟩, .int .i64 0, .string ⟨#[]⟩] _ rfl (World.rangeAt_setCells_same w1 w.heap.size 0 [.string ⟨#[]⟩, .int .i64 0, .string ⟨#[]⟩] HT.out) Tryz.underlying29 rfl (by kernel_rfl)) rfl ?_
  exact OnePost.mk ⟨⟨#[]⟩, 0, ⟨#[]⟩⟩ ⟨#[]⟩ false rfl (.inr ⟨rfl, HNONE.out⟩) ⟨Nat.zero_le _, Nat.zero_le _⟩ (Nat.zero_le _) (below_puts (g := w.heap.size) (o := 0) HB1.out (Nat.le_refl _) [.string ⟨#[]⟩, .int .i64 0, .string ⟨#[]⟩])
 | true =>
  obtain ⟨k, hk⟩ : ∃ k, ((B s).takeWhile fun c => !signB c).length = k := ⟨_, rfl⟩
  have hidx : idxS (B s) = (k : Int) := by unfold idxS; rw [hany, if_pos rfl, hk]
  have HT := Lib.hid (take_len_while (B s) fun c => !signB c)
  have HD := Lib.hid (drop_len_while (B s) fun c => !signB c)
  rw [hk] at HT HD
  have hks : k ≤ s.size := by
   have := congrArg List.length (List.takeWhile_append_dropWhile (p := fun c => !signB c) (l := B s))
   rw [List.length_append, hk, len_B] at this
   omega
  rw [hidx] at ki
  clear hba hany hidx hk
  have hk0 : ¬ ((k : Int) < 0) := by omega
  have hk0' : decide ((k : Int) < 0) = false := decide_eq_false hk0
  have hk1 : (0 : Int) ≤ (k : Int) := by omega
  have hk2 : (k : Int) ≤ (s.size : Int) := by omega
  go_enter Tryz.func52, Tryz.ntmps52
  go_wp2_with fail
  refine ki.mono ?_
  rintro e w1 ⟨rfl, hb1⟩
  have HO := Lib.hid (OneSt.new (nm := s.extract 0 k) hb1)
  clear ki hb1
  go_upto_region 5 with fail
  refine wp_forgetB (fun W => OneSt w W w.heap.size w1.heap.size (s.extract 0 k) 0 ⟨#[]⟩) HO.out (fun w2 hw2 => ?_)
  have kw := words_any w2
  have HO2 := Lib.hid hw2
  clear HO hw2
  go_wp2_with fail
  refine kw.mono ?_
  rintro e w3 ⟨rfl, hb3⟩
  have HO3 := Lib.hid (HO2.out.later hb3)
  generalize w1.heap.size = q at *
  clear kw HO2 hb3
  have HTE : Hid (B (s.extract k s.size) = (B s).dropWhile fun c => !signB c) := Lib.hid (by rw [B_extract, HD.out])
  have HNM : Hid (B (s.extract 0 k) = (B s).takeWhile fun c => !signB c) := Lib.hid (by rw [B_take, HT.out])
  have hxz : (s.extract k s.size).size ≤ s.size := by first | (simp; done) | (simp; omega)
  have hnz : (s.extract 0 k).size ≤ s.size := by first | (simp; done) | (simp; omega)
  clear HT HD
  go_wp2_with fail
  go_loopw [24] (fun v wr => ∃ i : Nat, v = .int .i64 i ∧ i ≤ 4 ∧ Hid (∀ o : Int, 0 ≤ o → o < i → ¬ prefO ((B s).dropWhile fun c => !signB c) o) ∧ Hid (OneSt w wr w.heap.size q (s.extract 0 k) 0 ⟨#[]⟩)) (fun v _ => 5 - (intOf v).toNat)
  case atStart => exact ⟨0, rfl, by omega, Lib.hid (fun o h0 h1 => by omega), HO3⟩
  case round =>
   clear HO3
   obtain ⟨i, rfl, hi4, HP, HO⟩ := hrel
   by_cases hi : i < 4
   ·have hi0 : (i : Int) < 4 := by omega
    have hidx := run_index_words (i : Int) (by omega) (by omega)
    have hwz := wordS_size (i : Int)
    have z1 : ¬ 9223372036854775807 < (wordS (i : Int)).size + 1 := by omega
    have kc := fun W => Tryz.strings_CutPrefix (s.extract k s.size) (wordS (i : Int) ++ ⟨#[34]⟩) W
    have e1 : (s.extract k s.size).data.toList = (B s).dropWhile fun c => !signB c := HTE.out
    have e2 : (wordS (i : Int) ++ ⟨#[34]⟩ : ByteArray).data.toList = wordB (i : Int) ++ [34] := by
     simp [wordS]
    rw [e1, e2] at kc
    clear e1 e2
    cases hp : Lib.hasPrefix ((B s).dropWhile fun c => !signB c) (wordB (i : Int) ++ [34]) with
    | false =>
     have HN : Hid (¬ prefO ((B s).dropWhile fun c => !signB c) (i : Int)) := Lib.hid (fun h => by rw [(hasPref_iff _ _).2 h] at hp; exact absurd hp (by decide))
     rw [hp] at kc
     clear hp
     go_wp2_with fail
     refine (kc _).mono ?_
     rintro e w5 ⟨rfl, rfl⟩
     clear kc
     go_wp2
     go_roundw
     case rel => exact ⟨i + 1, by go_num, by omega, Lib.hid (fun o h0 h1 => by
      by_cases e : o = (i : Int)
      ·subst e; exact HN.out
      ·exact HP.out o h0 (by omega)), HO⟩
     case measure => (simp [intOf]; try omega)
    | true =>
     obtain ⟨r, hr⟩ := (hasPref_iff _ _).1 hp
     have HR := Lib.hid hr
     rw [hp, hr, trimPref] at kc
     have hrz : (⟨r.toArray⟩ : ByteArray).size ≤ s.size := by
      have h1 := congrArg List.length hr
      have h2 := congrArg List.length HTE.out
      rw [len_B] at h2
      simp only [List.length_append, List.length_cons] at h1
      show r.toArray.size ≤ _
      simp
      omega
     clear hp hr
     have q1 := HO.out.q1
     have f1 := there_free HO.out.tq 1 (by omega)
     go_wp2_with fail
     refine (kc _).mono ?_
     rintro e w5 ⟨rfl, rfl⟩
     clear kc
     have kv := fun W => mvalue_any ⟨r.toArray⟩ W (by omega)
     go_upto_region 11 with fail
     refine wp_forgetB (fun W => OneSt w W w.heap.size q (s.extract 0 k) i ⟨#[]⟩) (HO.out.setOp i) (fun w6 hw6 => ?_)
     have HO6 := Lib.hid hw6
     clear hw6 q1 f1 HO
     go_wp2_with fail
     refine (kv _).mono ?_
     rintro e w7 ⟨va, vb, ok, rfl, hvp, hb7⟩
     have HO7 := Lib.hid (HO6.out.later hb7)
     have HVP := Lib.hid hvp
     have q2 := HO7.out.q2
     have f2 := there_free HO7.out.tq 2 (by omega)
     clear kv hb7 hvp HO6
     go_upto_region 13 with fail
     refine wp_forgetB (fun W => OneSt w W w.heap.size q (s.extract 0 k) i va) (HO7.out.setVal va) (fun w8 hw8 => ?_)
     have HO8 := Lib.hid hw8
     clear hw8 q2 f2 HO7
     have HOP := Lib.hid (op_word (show (0 : Int) ≤ (i : Int) by omega) (show (i : Int) ≤ 3 by omega) r)
     rw [← HR.out] at HOP
     have HMK : Hid (oneR (B s) = match valB r with
       | none => none
       | some (v, q) => if fineM ⟨s.extract 0 k, (i : Int), ⟨v.toArray⟩⟩ then some (⟨s.extract 0 k, (i : Int), ⟨v.toArray⟩⟩, q) else none) := Lib.hid (by
      unfold oneR
      rw [HOP.out]
      simp only []
      rw [← HNM.out, mk_B]
      cases valB r <;> rfl)
     have SK : Hid (∀ W, Below w8.heap.size w8 W → W.cell? ⟨q, 0, none⟩ = some (.string (s.extract 0 k)) ∧ W.cell? ⟨q, 1, none⟩ = some (.int .i64 i) ∧ W.cell? ⟨q, 2, none⟩ = some (.string va)) := Lib.hid (fun W h => ⟨(HO8.out.later h).q0, (HO8.out.later h).q1, (HO8.out.later h).q2⟩)
     cases ok with
     | false =>
      refine wp_region_held_drew (S := (fun W => W.cell? ⟨q, 0, none⟩ = some (.string (s.extract 0 k)) ∧ W.cell? ⟨q, 1, none⟩ = some (.int .i64 i) ∧ W.cell? ⟨q, 2, none⟩ = some (.string va))) (by kernel_rfl) (SK.out _ ((Below.refl _ _).drew)) (fun hHeld => ?_)
      have hbd : Below w8.heap.size w8 w8.drew := (Below.refl _ _).drew
      have HBD := Lib.hid hbd
      clear hbd
      generalize w8.drew = wd at *
      have HOE := Lib.hid (HO8.out.later HBD.out)
      refine plIn [0, 1, 2, 3] ?_
      iterate 4
       refine hP (v := ?_) rfl rfl hHeld ?_ ?_
       rotate_left
       ·rintro wh ⟨z0, z1, z2⟩
        go_simp
        (try with_reducible rfl)
       simp only [Act.put, List.setIfInBounds_toArray, List.set_cons_zero, List.set_cons_succ]
      refine plOut ?_
      refine plIn [4, 5] ?_
      iterate 2
       refine hK rfl rfl hHeld ?_
       simp only [Act.put, List.setIfInBounds_toArray, List.set_cons_zero, List.set_cons_succ]
      refine plOut ?_
      refine hT (i := 6) (v := ?_) rfl rfl hHeld ?_ ?_
      rotate_left
      ·rintro wh ⟨z0, z1, z2⟩
       go_simp
       (try with_reducible rfl)
      simp only [Act.put, List.setIfInBounds_toArray, List.set_cons_zero, List.set_cons_succ]
      refine held_step (i := 7) rfl (by kernel_rfl) (fun K hK => ?_)
      have d0 := HOE.out.p0; have d1 := HOE.out.p1; have d2 := HOE.out.p2; have f0 := there_free HOE.out.tp 0 (by omega); have f1 := there_free HOE.out.tp 1 (by omega); have f2 := there_free HOE.out.tp 2 (by omega); go_simp; clear d0 d1 d2 f0 f1 f2
      refine hK.out _ _ (HOE.out.putP [.string (s.extract 0 k), .int .i64 i, .string va]) (fun hHeld => ?_)
      clear hK K
      (try simp only [Act.put, List.setIfInBounds_toArray])
      refine plIn [8, 9] ?_
      iterate 2
       refine hP (v := ?_) rfl rfl hHeld ?_ ?_
       rotate_left
       ·rintro wh ⟨z0, z1, z2⟩
        go_simp
        (try with_reducible rfl)
       simp only [Act.put, List.setIfInBounds_toArray, List.set_cons_zero, List.set_cons_succ]
      refine plOut ?_
      refine wpAnyH_done (by kernel_rfl) ?_ _
      go_wp2
      refine bodyPost_ret (results_agg3 rfl _ _ w.heap.size [.string (s.extract 0 k), .int .i64 i, .string va] _ rfl (World.rangeAt_setCells_same wd w.heap.size 0 [.string (s.extract 0 k), .int .i64 i, .string va] HOE.out.tp) Tryz.underlying29 rfl (by kernel_rfl)) rfl ?_
      have hvp := HVP.out
      rcases hvp with ⟨_, hn, hv1, hv2⟩ | ⟨h, _⟩
      ·rw [B_mk] at hn
       exact OnePost.mk ⟨s.extract 0 k, i, va⟩ vb false rfl (.inr ⟨rfl, by rw [HMK.out, hn]⟩) ⟨by unfold maxLen; show (s.extract 0 k).size ≤ _; omega, by rw [hv1]; exact Nat.zero_le _⟩ (by rw [hv2]; exact Nat.zero_le _) (below_puts (g := w.heap.size) (o := 0) HOE.out.bl (Nat.le_refl _) [.string (s.extract 0 k), .int .i64 i, .string va])
      ·cases h
     | true =>
      have hvp := HVP.out
      rcases hvp with ⟨h, _⟩ | ⟨_, hv⟩
      ·cases h
      rw [B_mk] at hv
      have hes := esc_val _ _ _ _ (Nat.le_refl _) hv
      have hzz : va.size ≤ s.size ∧ vb.size ≤ s.size := by
       have h1 := congrArg List.length hes
       have h2 := escB_ge (B va)
       simp only [List.length_append, List.length_cons] at h1
       rw [len_B] at h1 h2
       have h3 : (⟨r.toArray⟩ : ByteArray).size = r.length := by show r.toArray.size = _; simp
       rw [h3] at hrz
       constructor <;> omega
      have kf := fun W => mfine_any ⟨s.extract 0 k, i, va⟩ W ⟨by unfold maxLen; show (s.extract 0 k).size ≤ _; omega, by unfold maxLen; show va.size ≤ _; omega⟩
      obtain ⟨F, hF⟩ : ∃ F, fineM ⟨s.extract 0 k, i, va⟩ = F := ⟨_, rfl⟩
      rw [hF] at kf
      have HF := Lib.hid hF
      have HV := Lib.hid hv
      have HZ := Lib.hid hzz
      clear hes hv hzz hF
      refine wp_region_held_drew (S := (fun W => W.cell? ⟨q, 0, none⟩ = some (.string (s.extract 0 k)) ∧ W.cell? ⟨q, 1, none⟩ = some (.int .i64 i) ∧ W.cell? ⟨q, 2, none⟩ = some (.string va))) (by kernel_rfl) (SK.out _ ((Below.refl _ _).drew)) (fun hHeld => ?_)
      have hbd : Below w8.heap.size w8 w8.drew := (Below.refl _ _).drew
      have HBD := Lib.hid hbd
      clear hbd
      generalize w8.drew = wd at *
      refine plIn [0, 1, 2, 3, 4] ?_
      iterate 5
       refine hP (v := ?_) rfl rfl hHeld ?_ ?_
       rotate_left
       ·rintro wh ⟨z0, z1, z2⟩
        go_simp
        (try with_reducible rfl)
       simp only [Act.put, List.setIfInBounds_toArray, List.set_cons_zero, List.set_cons_succ]
      refine plOut ?_
      refine held_call (i := 5) rfl (by kernel_rfl) (by rfl) (fun K hK => ?_)
      go_simp; refine (kf _).mono ?_; rintro e w9 ⟨rfl, hb9⟩; have HB9 := Lib.hid (HBD.out.trans (hb9.mono HBD.out.size)); have HOE := Lib.hid (HO8.out.later HB9.out); clear hb9
      refine hK.out _ _ (SK.out _ HB9.out) (fun hHeld => ?_)
      clear hK K
      (try simp only [Act.put, List.setIfInBounds_toArray, List.set_cons_zero, List.set_cons_succ])
      refine hT (i := 6) (v := ?_) rfl rfl hHeld ?_ ?_
      rotate_left
      ·rintro wh ⟨z0, z1, z2⟩
       go_simp
       (try with_reducible rfl)
      simp only [Act.put, List.setIfInBounds_toArray, List.set_cons_zero, List.set_cons_succ]
      refine held_step (i := 7) rfl (by kernel_rfl) (fun K hK => ?_)
      have d0 := HOE.out.p0; have d1 := HOE.out.p1; have d2 := HOE.out.p2; have f0 := there_free HOE.out.tp 0 (by omega); have f1 := there_free HOE.out.tp 1 (by omega); have f2 := there_free HOE.out.tp 2 (by omega); go_simp; clear d0 d1 d2 f0 f1 f2
      refine hK.out _ _ (HOE.out.putP [.string (s.extract 0 k), .int .i64 i, .string va]) (fun hHeld => ?_)
      clear hK K
      (try simp only [Act.put, List.setIfInBounds_toArray])
      refine plIn [8, 9] ?_
      iterate 2
       refine hP (v := ?_) rfl rfl hHeld ?_ ?_
       rotate_left
       ·rintro wh ⟨z0, z1, z2⟩
        go_simp
        (try with_reducible rfl)
       simp only [Act.put, List.setIfInBounds_toArray, List.set_cons_zero, List.set_cons_succ]
      refine plOut ?_
      refine wpAnyH_done (by kernel_rfl) ?_ _
      go_wp2
      refine bodyPost_ret (results_agg3 rfl _ _ w.heap.size [.string (s.extract 0 k), .int .i64 i, .string va] _ rfl (World.rangeAt_setCells_same w9 w.heap.size 0 [.string (s.extract 0 k), .int .i64 i, .string va] HOE.out.tp) Tryz.underlying29 rfl (by kernel_rfl)) rfl ?_
      have hfin : OneP s ⟨s.extract 0 k, i, va⟩ vb F := by
       cases F with
       | true => exact .inl ⟨rfl, by rw [HMK.out, HV.out]; simp only []; rw [mk_B, if_pos HF.out]⟩
       | false => exact .inr ⟨rfl, by rw [HMK.out, HV.out]; simp only []; rw [mk_B, if_neg (by rw [HF.out]; decide)]⟩
      exact OnePost.mk ⟨s.extract 0 k, i, va⟩ vb F rfl hfin ⟨by unfold maxLen; show (s.extract 0 k).size ≤ _; omega, by have := HZ.out.1; unfold maxLen; show va.size ≤ _; omega⟩ HZ.out.2 (below_puts (g := w.heap.size) (o := 0) HOE.out.bl (Nat.le_refl _) [.string (s.extract 0 k), .int .i64 i, .string va])
   ·obtain rfl : i = 4 := by omega
    have HN := Lib.hid (opB_none (fun o h0 h3 => HP.out o h0 (by omega)))
    have HNONE : Hid (oneR (B s) = none) := Lib.hid (by unfold oneR; rw [HN.out])
    have c0 := HO.out.q0
    have c1 := HO.out.q1
    have c2 := HO.out.q2
    have d0 := HO.out.p0
    have d1 := HO.out.p1
    have d2 := HO.out.p2
    have f0 := there_free HO.out.tp 0 (by omega)
    have f1 := there_free HO.out.tp 1 (by omega)
    have f2 := there_free HO.out.tp 2 (by omega)
    go_wp2
    refine bodyPost_ret (results_agg3 rfl _ _ w.heap.size [.string (s.extract 0 k), .int .i64 0, .string ⟨#[]⟩] _ rfl (World.rangeAt_setCells_same wr w.heap.size 0 [.string (s.extract 0 k), .int .i64 0, .string ⟨#[]⟩] HO.out.tp) Tryz.underlying29 rfl (by kernel_rfl)) rfl ?_
    exact OnePost.mk ⟨s.extract 0 k, 0, ⟨#[]⟩⟩ ⟨#[]⟩ false rfl (.inr ⟨rfl, HNONE.out⟩) ⟨by unfold maxLen; show (s.extract 0 k).size ≤ _; omega, Nat.zero_le _⟩ (Nat.zero_le _) (below_puts (g := w.heap.size) (o := 0) HO.out.bl (Nat.le_refl _) [.string (s.extract 0 k), .int .i64 0, .string ⟨#[]⟩])
end Go.Proofs.YtgbapkechngnmaaGreat
/- match.Read: a contract. -/
namespace Go.Proofs.YtgbapkechngnmaaGreat
open Go.RowKit
/-! plain -/
theorem rd_nil (k : Nat) : rdB k [] = some [] := by rw [rdB_eq, if_pos rfl]
theorem rd_zero {s : List UInt8} (h : s ≠ []) : rdB 0 s = none := by rw [rdB_eq, if_neg h]
theorem rd_bad {k : Nat} {s : List UInt8} (h : s ≠ []) (h1 : oneR s = none) : rdB k s = none := by
 rw [rdB_eq, if_neg h]
 cases k with
 | zero => rfl
 | succ k => simp only [h1]
theorem rd_last {k : Nat} {s : List UInt8} {m : Mt} (h : s ≠ []) (h1 : oneR s = some (m, [])) : rdB (k + 1) s = (rdB k []).map (m :: ·) := by
 rw [rdB_eq, if_neg h, rd_nil]
 simp only [h1]
 rfl
theorem rd_more {k : Nat} {s q : List UInt8} {m : Mt} (h : s ≠ []) (h1 : oneR s = some (m, 44 :: q)) (hq : q ≠ []) : rdB (k + 1) s = (rdB k q).map (m :: ·) := by
 rw [rdB_eq, if_neg h]
 simp only [h1]
 rw [if_pos ⟨trivial, hq⟩]
theorem rd_odd {k : Nat} {s q : List UInt8} {m : Mt} {c : UInt8} (h : s ≠ []) (h1 : oneR s = some (m, c :: q)) (hq : c ≠ 44 ∨ q = []) : rdB k s = none := by
 rw [rdB_eq, if_neg h]
 cases k with
 | zero => rfl
 | succ k =>
  simp only [h1]
  rw [if_neg (fun e => hq.elim (fun h => h e.1) e.2)]
def sizeS : Value → Nat
 | .string s => s.size
 | _ => 0
def ReadPost6 (s : ByteArray) (w : World) (e : Ending) (w' : World) : Prop := ∃ (v : Value) (n : Int), e = .returned (.tuple #[v, .int .i64 n]) ∧ Below w.heap.size w w' ∧
 ((n = 0 ∧ ∃ l, rdB 12 (B s) = some l ∧ MtsAt w' v l ∧ MtsFit l) ∨ (n = 2 ∧ rdB 12 (B s) = none ∧ v = .slice none 0 0))
theorem info_mt : (Tryz.prog.info? 29).map (fun i => (i.zero, i.size, i.bytes)) = some (some (.agg #[.string ⟨#[]⟩, .int .i64 0, .string ⟨#[]⟩]), 3, 40) := by kernel_rfl
theorem row_mt (w : World) (m : Mt) : RdAt (w.alloc (.cells #[.string m.nm, .int .i64 m.op, .string m.val] 29)) (.slice (some ⟨w.heap.size, 0, none⟩) 1 1) 1 3 [.string m.nm, .int .i64 m.op, .string m.val] :=
 RdAt.mk rfl (Nat.le_refl _) (by rw [World.size_alloc]; omega) (fun j x hj => by
  rw [Nat.zero_add, cell_of_row _ _ _ _ _ _ (heap_alloc_new _ _)]
  simpa using hj)
theorem mt1_cells (m : Mt) : ∀ y ∈ ([.string m.nm, .int .i64 m.op, .string m.val] : List Value), y.oneCell' = true := by
 intro y hy
 simp at hy
 rcases hy with rfl | rfl | rfl <;> rfl
theorem toList_ne {s : ByteArray} (h : B s ≠ []) : s.toList.isEmpty = false := by
 rw [toList_B]
 cases hb : B s with
 | nil => exact absurd hb h
 | cons _ _ => rfl
set_option maxHeartbeats 1600000 in
set_option maxRecDepth 100000 in
theorem mread_any (s : ByteArray) (w : World) (hs : s.size ≤ 900000) : Calls Tryz.prog 21 #[.string s] w (ReadPost6 s w) := by
 obtain ⟨i0, hi0, hz0, hz1, hz2⟩ := info_parts info_mt
 go_enter Tryz.func21, Tryz.ntmps21
 go_wp2
 go_loopw [4, 5] (fun v4 v5 wr => ∃ (lv : Value) (rest : ByteArray) (ms : List Mt), lv = v4 ∧ v5 = .string rest ∧ rest.size ≤ s.size ∧ ms.length ≤ 12 ∧ Hid (MtsFit ms) ∧ Hid (wr.ownsRow w.heap.size 29 3 lv ms.length (mtCells ms)) ∧ Hid (rdB 12 (B s) = (rdB (12 - ms.length) (B rest)).map (ms ++ ·)) ∧ Hid (Below w.heap.size w wr)) (fun _ v _ => sizeS v)
 case atStart => exact ⟨_, s, [], rfl, rfl, Nat.le_refl _, Nat.zero_le _, Lib.hid (fun _ h => by cases h), Lib.hid (World.ownsRow_nil _ _ _ _), Lib.hid (by simp), Lib.hid (Below.refl _ _)⟩
 case round =>
  obtain ⟨lv, rest, ms, rfl, rfl, hrz, hml, HFIT, HOW, HRD, HB⟩ := hrel
  obtain ⟨la, lc, rfl, _, _⟩ := RdAt.shape (RdAt.own HOW.out)
  by_cases h0 : B rest = []
  ·have h0' : rest.toList = [] := by rw [toList_B]; exact h0
   have HQ : Hid (rdB 12 (B s) = some ms) := Lib.hid (by rw [HRD.out, h0, rd_nil]; simp)
   clear h0
   go_wp2
   go_ret2
   exact ⟨_, _, rfl, HB.out, .inl ⟨rfl, ms, HQ.out, RdAt.own HOW.out, HFIT.out⟩⟩
  ·have h0' := toList_ne h0
   have HNE := Lib.hid h0
   have k1 := mone_any rest wr (by omega)
   have hrp : 0 < rest.size := by rw [← len_B]; exact List.length_pos_iff.2 h0
   clear h0
   go_wp2_with fail
   refine k1.mono ?_
   rintro e w1 ⟨m, a, ok, rfl, hP, hMF, haz, hb1⟩
   have HMF := Lib.hid hMF
   have HP := Lib.hid hP
   have HB1 := Lib.hid (HB.out.trans (hb1.mono HB.out.size))
   have HOW1 := Lib.hid (own_later HOW.out hb1)
   have kc := fun W => Tryz.strings_CutPrefix a ⟨#[44]⟩ W
   have ea : a.data.toList = B a := rfl
   have ec : (⟨#[44]⟩ : ByteArray).data.toList = [44] := rfl
   rw [ea, ec] at kc
   clear k1 hP hMF hb1 ea ec HOW HB
   have hba := alloc_below w1 (.cells #[.string m.nm, .int .i64 m.op, .string m.val] 29)
   have m0 : (w1.alloc (.cells #[.string m.nm, .int .i64 m.op, .string m.val] 29)).cell? ⟨w1.heap.size, 0, none⟩ = some (.string m.nm) := World.cell?_alloc_at _ _ _ _ rfl
   have m1 : (w1.alloc (.cells #[.string m.nm, .int .i64 m.op, .string m.val] 29)).cell? ⟨w1.heap.size, 1, none⟩ = some (.int .i64 m.op) := World.cell?_alloc_at _ _ _ _ rfl
   have m2 : (w1.alloc (.cells #[.string m.nm, .int .i64 m.op, .string m.val] 29)).cell? ⟨w1.heap.size, 2, none⟩ = some (.string m.val) := World.cell?_alloc_at _ _ _ _ rfl
   have hown2 := own_later HOW1.out hba
   have HB2 := Lib.hid (HB1.out.trans (hba.mono HB1.out.size))
   go_upto_region 5 with fail
   change Code.wp _ _ _ _ (w1.alloc (.cells #[.string m.nm, .int .i64 m.op, .string m.val] 29))
   generalize w1.alloc (.cells #[.string m.nm, .int .i64 m.op, .string m.val] 29) = w2 at *
   have HOW2 := Lib.hid hown2
   generalize w1.heap.size = gm at *
   clear hba hown2 HB1 HOW1
   cases ok with
   | false =>
    have HN : Hid (rdB 12 (B s) = none) := Lib.hid (by
     rcases HP.out with ⟨h, _⟩ | ⟨_, h⟩
     ·cases h
     ·rw [HRD.out, rd_bad HNE.out h]; rfl)
    go_wp2_with fail
    refine (kc _).mono ?_
    rintro e w3 ⟨rfl, rfl⟩
    clear kc
    go_wp2
    go_ret2
    exact ⟨_, _, rfl, HB2.out, .inr ⟨rfl, HN.out, rfl⟩⟩
   | true =>
    have hone : oneR (B rest) = some (m, B a) := by
     rcases HP.out with ⟨_, h⟩ | ⟨h, _⟩
     ·exact h
     ·cases h
    have HONE := Lib.hid hone
    clear hone HP
    by_cases h12 : ms.length = 12
    ·have HN : Hid (rdB 12 (B s) = none) := Lib.hid (by rw [HRD.out, h12, rd_zero HNE.out]; rfl)
     have hb12 : ((ms.length : Int) == 12) = true := by rw [beq_iff_eq]; omega
     clear h12
     go_wp2_with fail
     refine (kc _).mono ?_
     rintro e w3 ⟨rfl, rfl⟩
     clear kc
     go_wp2
     go_ret2
     exact ⟨_, _, rfl, HB2.out, .inr ⟨rfl, HN.out, rfl⟩⟩
    ·have hb12 : ((ms.length : Int) == 12) = false := by rw [beq_eq_false_iff_ne]; omega
     have hlt12 : ms.length < 12 := by omega
     clear h12
     cases hBa : B a with
     | nil =>
      rw [hBa] at kc HONE
      have hal : a.toList = [] := by rw [toList_B]; exact hBa
      have e1 : Lib.hasPrefix [] [44] = false := rfl
      have e2 : Lib.trimPrefix [] [44] = [] := rfl
      rw [e1, e2] at kc
      clear e1 e2 hBa
      go_wp2_with fail
      refine (kc _).mono ?_
      rintro e w3 ⟨rfl, rfl⟩
      have hown := own_later HOW2.out (alloc_below w3 (.cells #[.string m.nm, .int .i64 m.op, .string m.val] 29))
      have hrow := row_mt w3 m
      have HBX := Lib.hid (HB2.out.trans ((alloc_below w3 (.cells #[.string m.nm, .int .i64 m.op, .string m.val] 29)).mono HB2.out.size))
      have hbase := HBX.out.size
      clear kc
      go_wp2_with (at_builtin; (refine wpList_append_rd rfl (.tmp 47) (.tmp 49) 23 rfl w.heap.size 29 i0 (.agg #[.string ⟨#[]⟩, .int .i64 0, .string ⟨#[]⟩]) 3 40 Tryz.underlying23 hi0 hz0 hz1 hz2 rfl (by decide) (.slice la ms.length lc) ms.length (mtCells ms) rfl hown _ 1 _ rfl hrow (mt1_cells m) (by unfold maxLen; omega) (by omega) hbase ?_); intro v' w6 hown6 hgrow6; have HO6 := Lib.hid hown6; have HB6 := Lib.hid (HBX.out.grown hgrow6 hbase (fun q hq => (hown.lt q hq).1)); clear hown6 hgrow6)
      go_roundw
      case rel => exact ⟨v', ⟨#[]⟩, ms ++ [m], rfl, rfl, Nat.zero_le _, by rw [List.length_append]; simp only [List.length_cons, List.length_nil]; omega, Lib.hid (fun x hx => by rcases List.mem_append.1 hx with h | h; exact HFIT.out x h; rw [List.mem_singleton.1 h]; exact HMF.out), Lib.hid (by rw [List.length_append, mtCells_append]; exact HO6.out), Lib.hid (by rw [HRD.out, show 12 - ms.length = (12 - (ms ++ [m]).length) + 1 by rw [List.length_append]; simp only [List.length_cons, List.length_nil]; omega, rd_last HNE.out HONE.out, show B (⟨#[]⟩ : ByteArray) = [] from rfl, Option.map_map]; congr 1; funext x; simp), HB6⟩
      case measure => exact hrp
     | cons c q =>
      rw [hBa] at kc HONE
      have hal : a.toList.isEmpty = false := toList_ne (by rw [hBa]; simp)
      have haq : q.length + 1 ≤ rest.size := by
       have := congrArg List.length hBa
       rw [len_B] at this
       simp only [List.length_cons] at this
       omega
      by_cases hc : c = 44
      ·subst hc
       have e1 : Lib.hasPrefix (44 :: q) [44] = true := by simp [Lib.hasPrefix]
       have e2 : Lib.trimPrefix (44 :: q) [44] = q := by unfold Lib.trimPrefix; rw [e1]; rfl
       rw [e1, e2] at kc
       obtain ⟨mo, hmo⟩ : ∃ t : ByteArray, (⟨q.toArray⟩ : ByteArray) = t := ⟨_, rfl⟩
       rw [hmo] at kc
       have hBq : B mo = q := by rw [← hmo, B_mk]
       clear e1 e2 hBa hmo
       by_cases hq : q = []
       ·have HN : Hid (rdB 12 (B s) = none) := Lib.hid (by rw [HRD.out, rd_odd HNE.out HONE.out (.inr hq)]; rfl)
        have hql : mo.toList = [] := by rw [toList_B, hBq]; exact hq
        clear hq hBq
        go_wp2_with fail
        refine (kc _).mono ?_
        rintro e w3 ⟨rfl, rfl⟩
        clear kc
        go_wp2
        go_ret2
        exact ⟨_, _, rfl, HB2.out, .inr ⟨rfl, HN.out, rfl⟩⟩
       ·have hql : mo.toList.isEmpty = false := toList_ne (by rw [hBq]; exact hq)
        have hqz : mo.size = q.length := by rw [← len_B, hBq]
        have HBQ := Lib.hid hBq
        have HQ := Lib.hid hq
        have HQZ := Lib.hid hqz
        clear hq hqz hBq
        go_wp2_with fail
        refine (kc _).mono ?_
        rintro e w3 ⟨rfl, rfl⟩
        have hown := own_later HOW2.out (alloc_below w3 (.cells #[.string m.nm, .int .i64 m.op, .string m.val] 29))
        have hrow := row_mt w3 m
        have HBX := Lib.hid (HB2.out.trans ((alloc_below w3 (.cells #[.string m.nm, .int .i64 m.op, .string m.val] 29)).mono HB2.out.size))
        have hbase := HBX.out.size
        clear kc
        go_wp2_with (at_builtin; (refine wpList_append_rd rfl (.tmp 47) (.tmp 49) 23 rfl w.heap.size 29 i0 (.agg #[.string ⟨#[]⟩, .int .i64 0, .string ⟨#[]⟩]) 3 40 Tryz.underlying23 hi0 hz0 hz1 hz2 rfl (by decide) (.slice la ms.length lc) ms.length (mtCells ms) rfl hown _ 1 _ rfl hrow (mt1_cells m) (by unfold maxLen; omega) (by omega) hbase ?_); intro v' w6 hown6 hgrow6; have HO6 := Lib.hid hown6; have HB6 := Lib.hid (HBX.out.grown hgrow6 hbase (fun q hq => (hown.lt q hq).1)); clear hown6 hgrow6)
        go_roundw
        case rel => exact ⟨v', mo, ms ++ [m], rfl, rfl, by rw [HQZ.out]; omega, by rw [List.length_append]; simp only [List.length_cons, List.length_nil]; omega, Lib.hid (fun x hx => by rcases List.mem_append.1 hx with h | h; exact HFIT.out x h; rw [List.mem_singleton.1 h]; exact HMF.out), Lib.hid (by rw [List.length_append, mtCells_append]; exact HO6.out), Lib.hid (by rw [HRD.out, show 12 - ms.length = (12 - (ms ++ [m]).length) + 1 by rw [List.length_append]; simp only [List.length_cons, List.length_nil]; omega, rd_more HNE.out HONE.out HQ.out, HBQ.out, Option.map_map]; congr 1; funext x; simp), HB6⟩
        case measure => (show mo.size < rest.size; rw [HQZ.out]; omega)
      ·have e1 : Lib.hasPrefix (c :: q) [44] = false := by
        simp only [Lib.hasPrefix, List.isPrefixOf]
        have : ((44 : UInt8) == c) = false := by rw [beq_eq_false_iff_ne]; exact fun e => hc e.symm
        rw [this]; rfl
       have HN : Hid (rdB 12 (B s) = none) := Lib.hid (by rw [HRD.out, rd_odd HNE.out HONE.out (.inl hc)]; rfl)
       rw [e1] at kc
       clear e1 hBa hc
       go_wp2_with fail
       refine (kc _).mono ?_
       rintro e w3 ⟨rfl, rfl⟩
       clear kc
       go_wp2
       go_ret2
       exact ⟨_, _, rfl, HB2.out, .inr ⟨rfl, HN.out, rfl⟩⟩
end Go.Proofs.YtgbapkechngnmaaGreat
/- match.All: a contract. -/
namespace Go.Proofs.YtgbapkechngnmaaGreat
open Go.RowKit
noncomputable def allM (l : List Fld) (ms : List Mt) : Bool := ms.all fun m => fitM l m
theorem allM_any (l : List Fld) (ms : List Mt) : (!(ms.any fun m => !(fitM l m))) = allM l ms := by
 unfold allM
 induction ms with
 | nil => rfl
 | cons m ms ih => rw [List.any_cons, List.all_cons, ← ih]; cases fitM l m <;> simp
set_option maxHeartbeats 1600000 in
theorem allclos (l : List Fld) (m : Mt) (b : Nat) (v : Value) (w : World) (hv : FldsAt w v l) (hl : l.length ≤ 1000000000000) (hfit : FldsFit l) (hf : MtFit m) (hc : w.cell? ⟨b, 0, none⟩ = some v) (hlt : b < w.heap.size) :
  Calls Tryz.prog 46 #[.agg #[.string m.nm, .int .i64 m.op, .string m.val], .pointer (some ⟨b, 0, none⟩)] w fun e w' => e = .returned (.bool (!(fitM l m))) ∧ Below w.heap.size w w' := by
 have hb := alloc_below w (.cells #[.string m.nm, .int .i64 m.op, .string m.val] 29)
 have hz := World.size_alloc w (.cells #[.string m.nm, .int .i64 m.op, .string m.val] 29)
 have k := fits_any l m _ v (hv.later hb) hl hfit hf
 have h1 := keep_cell hc hb hlt
 have HB := Lib.hid hb
 obtain ⟨fa, fc, rfl, _, _⟩ := RdAt.shape hv
 generalize fitM l m = R at *
 obtain ⟨nm, op, val⟩ := m
 dsimp only at *
 clear hv hfit hf hc hb hz
 go_enter Tryz.func46, Tryz.ntmps46
 go_wp2_with fail
 refine k.mono ?_
 rintro e w1 ⟨rfl, hb1⟩
 clear k
 go_wp2
 go_ret
 exact ⟨rfl, HB.out.trans (hb1.mono HB.out.size)⟩
set_option maxHeartbeats 1600000 in
theorem all_any (l : List Fld) (ms : List Mt) (v mv : Value) (w : World) (hv : FldsAt w v l) (hl : l.length ≤ 1000000000000) (hfit : FldsFit l) (hm : MtsAt w mv ms) (hml : ms.length ≤ 1000000000000) (hmf : MtsFit ms) :
  Calls Tryz.prog 18 #[v, mv] w fun e w' => e = .returned (.bool (allM l ms)) ∧ Below w.heap.size w w' := by
 obtain ⟨fa, fc, rfl, _, _⟩ := RdAt.shape hv
 obtain ⟨ma, mc, rfl, _, _⟩ := RdAt.shape hm
 have hb := alloc_below w (.cells #[.slice fa l.length fc] 22)
 have hlt : w.heap.size < (w.alloc (.cells #[.slice fa l.length fc] 22)).heap.size := by rw [World.size_alloc]; omega
 have hc : (w.alloc (.cells #[.slice fa l.length fc] 22)).cell? ⟨w.heap.size, 0, none⟩ = some (.slice fa l.length fc) := by rw [cell_of_row _ _ _ _ _ _ (heap_alloc_new w _)]; rfl
 have k := hasm_gen ms hmf (fun m => !(fitM l m)) 46 #[.pointer (some ⟨w.heap.size, 0, none⟩)] (enters_of Tryz.func46 (by kernel_rfl) rfl) _ _ (hm.later hb) hml
  (fun W m hmfit hW => allclos l m w.heap.size _ W ((hv.later hb).later hW) hl hfit hmfit (keep_cell hc hW hlt) (Nat.lt_of_lt_of_le hlt hW.size))
 have HA := Lib.hid (allM_any l ms)
 have HB := Lib.hid hb
 generalize (ms.any fun m => !(fitM l m)) = R at *
 generalize l.length = ln at *
 generalize ms.length = mn at *
 clear hv hm hfit hmf hb hlt hc
 go_enter Tryz.func18, Tryz.ntmps18
 go_wp2_with fail
 refine k.mono ?_
 rintro e w1 ⟨rfl, hb1⟩
 clear k
 go_wp2
 go_ret
 exact ⟨by rw [← HA.out]; rfl, HB.out.trans (hb1.mono HB.out.size)⟩
end Go.Proofs.YtgbapkechngnmaaGreat
/- Which texts fit a pattern that is known: reckoned. The example of the statements. No program in sight. -/
namespace Go.Proofs.YtgbapkechngnmaaGreat
def closN (sts : List St) : Nat → List Nat → List Nat
 | 0, l => l
 | n + 1, l => closN sts n (l ++ l.flatMap (frees sts)).eraseDups
def closedB (sts : List St) (l : List Nat) : Bool := l.all fun k => (frees sts k).all fun f => l.contains f
def runC (sts : List St) : List Nat → List Nat → List Nat
 | l, [] => l
 | l, c :: cs => runC sts (closN sts sts.length (goN sts c l)) cs
def chkC (sts : List St) : List Nat → List Nat → Bool
 | _, [] => true
 | l, c :: cs => closedB sts (closN sts sts.length (goN sts c l)) && chkC sts (closN sts sts.length (goN sts c l)) cs
theorem closN_sub (sts : List St) : ∀ (n : Nat) (l : List Nat) (k : Nat), k ∈ l → k ∈ closN sts n l
 | 0, _, _, h => h
 | n + 1, l, k, h => closN_sub sts n _ k (by rw [List.mem_eraseDups]; exact List.mem_append_left _ h)
theorem closN_cl (sts : List St) : ∀ (n : Nat) (l : List Nat) (k : Nat), k ∈ closN sts n l → Cl sts l k
 | 0, _, k, h => ⟨k, h, .refl _⟩
 | n + 1, l, k, h => by
  obtain ⟨j, hj, hr⟩ := closN_cl sts n _ k h
  rw [List.mem_eraseDups] at hj
  rcases List.mem_append.1 hj with h1 | h1
  ·exact ⟨j, h1, hr⟩
  ·obtain ⟨q, hq, h2⟩ := List.mem_flatMap.1 h1
   exact ⟨q, hq, .cons h2 hr⟩
theorem closN_iff {sts : List St} {n : Nat} {l : List Nat} (h : closedB sts (closN sts n l) = true) (k : Nat) : k ∈ closN sts n l ↔ Cl sts l k := by
 refine ⟨closN_cl sts n l k, ?_⟩
 rintro ⟨j, hj, hr⟩
 induction hr with
 | refl => exact closN_sub sts n l _ hj
 | step _ h2 ih =>
  have h3 := List.all_eq_true.1 (List.all_eq_true.1 h _ ih) _ h2
  simpa using h3
theorem runC_iff {sts : List St} {st : Nat} : ∀ (cs : List Nat) (l ws : List Nat), (∀ k, k ∈ l ↔ Rn sts st ws k) → chkC sts l cs = true → ∀ k, k ∈ runC sts l cs ↔ Rn sts st (ws ++ cs) k
 | [], l, ws, h, _, k => by rw [List.append_nil]; exact h k
 | c :: cs, l, ws, h, hc, k => by
  simp only [chkC, Bool.and_eq_true] at hc
  have h2 : ∀ k, k ∈ closN sts sts.length (goN sts c l) ↔ Rn sts st (ws ++ [c]) k := fun k => by rw [closN_iff hc.1, Rn_snoc h]
  have := runC_iff cs _ _ h2 hc.2 k
  rw [List.append_assoc, List.singleton_append] at this
  exact this
def fitC (sts : List St) (st en : Nat) (cs : List Nat) : Option Bool :=
 if closedB sts (closN sts sts.length [st]) && chkC sts (closN sts sts.length [st]) cs then some ((runC sts (closN sts sts.length [st]) cs).contains en) else none
theorem fitC_iff {sts : List St} {st en : Nat} {cs : List Nat} {b : Bool} (h : fitC sts st en cs = some b) : b = true ↔ Rn sts st cs en := by
 unfold fitC at h
 split at h
 ·rename_i hc
  simp only [Bool.and_eq_true] at hc
  have h0 : ∀ k, k ∈ closN sts sts.length [st] ↔ Rn sts st [] k := fun k => by rw [closN_iff hc.1, Rn_nil]
  have := runC_iff cs _ [] h0 hc.2 en
  rw [List.nil_append] at this
  rw [← this, ← Option.some.inj h]
  simp
 ·cases h
/-! the example -/
end Go.Proofs.YtgbapkechngnmaaGreat
/- lychgatelaw06's lives: the document's example. -/
namespace Go.Proofs.YtgbapkechngnmaaGreat
open Go.RowKit
def mT : Mt := ⟨⟨#[116, 101, 97, 109]⟩, 0, ⟨#[97]⟩⟩
def mH : Mt := ⟨⟨#[104, 111, 115, 116]⟩, 3, ⟨#[120, 46, 42]⟩⟩
def lvB : ByteArray := ⟨#[116, 101, 97, 109, 61, 34, 97, 34, 44, 104, 111, 115, 116, 33, 126, 34, 120, 46, 42, 34]⟩
theorem mT_fine : fineM mT = true := by kernel_rfl
theorem mH_fine : fineM mH = true := by kernel_rfl
theorem lv_text : textB [mT, mH] = B lvB := by kernel_rfl
theorem lv_ok : mtsOk [mT, mH] = true := by
 unfold mtsOk
 simp [mT_fine, mH_fine]
theorem lv_read : rdB 12 (B lvB) = some [mT, mH] := (rd_iff _ _).2 ⟨lv_ok, lv_text⟩
def lvF : List Fld := [(⟨#[104, 111, 115, 116]⟩, ⟨#[121]⟩), (⟨#[116, 101, 97, 109]⟩, ⟨#[97]⟩)]
theorem lv_no : fitB ⟨#[120, 46, 42]⟩ ⟨#[121]⟩ = false := by
 have h : fitC (endR ⟨#[120, 46, 42]⟩).sts (runR ⟨#[120, 46, 42]⟩).2.1 (runR ⟨#[120, 46, 42]⟩).2.2 [121] = some false := by kernel_rfl
 rw [← Bool.not_eq_true, fitB_iff]
 rintro ⟨_, h2⟩
 have := (fitC_iff h).2 h2
 cases this
theorem lv_v1 : valueF lvF mT.nm = ⟨#[97]⟩ := by unfold valueF; simp only [bytes_beq]; rfl
theorem lv_v2 : valueF lvF mH.nm = ⟨#[121]⟩ := by unfold valueF; simp only [bytes_beq]; rfl
theorem lv_all : allM lvF [mT, mH] = true := by
 have h1 : fitM lvF mT = true := by
  unfold fitM
  rw [mT_fine, lv_v1]
  unfold opM
  rw [if_pos (show mT.op = 0 from rfl), bytes_beq]
  rfl
 have h2 : fitM lvF mH = true := by
  unfold fitM
  rw [mH_fine, lv_v2]
  unfold opM
  rw [if_neg (by decide), if_neg (by decide), if_neg (by decide)]
  show (!(fitB ⟨#[120, 46, 42]⟩ ⟨#[121]⟩)) = true
  rw [lv_no]
  rfl
 unfold allM
 simp [h1, h2]
theorem lv_none : allM [] [mT, mH] = false := by
 have h1 : fitM [] mT = false := by
  unfold fitM
  rw [mT_fine]
  unfold opM
  rw [if_pos (show mT.op = 0 from rfl), bytes_beq]
  rfl
 unfold allM
 simp [h1]
theorem lv_fit : MtsFit [mT, mH] := by
 intro m hm
 simp at hm
 rcases hm with rfl | rfl <;> (unfold MtFit maxLen; decide)
theorem lvF_fit : FldsFit lvF := by
 intro f hf
 simp [lvF] at hf
 rcases hf with rfl | rfl <;> (constructor <;> (unfold maxLen; decide))
set_option maxHeartbeats 1600000 in
set_option maxRecDepth 100000 in
theorem lives6_any (w : World) : Calls Tryz.prog 11 #[] w fun e w' => e = .returned (.bool true) ∧ Below w.heap.size w w' := by
 have k1 := mread_any lvB w (by decide)
 unfold lvB at k1
 go_enter Tryz.func11, Tryz.ntmps11
 go_wp2_with fail
 refine k1.mono ?_
 rintro e w1 ⟨v, n, rfl, hb1, ⟨rfl, l, hl, hM, hF⟩ | ⟨_, hn, _⟩⟩
 rotate_left
 ·have := lv_read
  unfold lvB at this
  rw [this] at hn
  cases hn
 have hll : l = [mT, mH] := by
  have := lv_read
  unfold lvB at this
  rw [this] at hl
  exact (Option.some.inj hl).symm
 subst hll
 have k2 := mtext_any [mT, mH] v w1 hM hF (by decide)
 have HM := Lib.hid hM
 have HB1 := Lib.hid hb1
 obtain ⟨a, c, rfl, _, _⟩ := RdAt.shape hM
 clear k1 hl hM hF hb1
 go_wp2_with fail
 refine k2.mono ?_
 rintro e w2 ⟨s, n, rfl, hb2, ⟨_, rfl, hs⟩ | ⟨hno, _⟩⟩
 rotate_left
 ·rw [lv_ok] at hno; cases hno
 have hse : s = ⟨#[116, 101, 97, 109, 61, 34, 97, 34, 44, 104, 111, 115, 116, 33, 126, 34, 120, 46, 42, 34]⟩ := by
  have := hs.trans lv_text
  exact B_inj this
 subst hse
 have HM2 := Lib.hid (HM.out.later hb2)
 have HB2 := Lib.hid (HB1.out.trans (hb2.mono HB1.out.size))
 have ka := fun W (h : Below w2.heap.size w2 W) => all_any [] [mT, mH] (.slice none 0 0) _ W (RdAt.nil W 2) (Nat.zero_le _) (fun _ h => by cases h) (HM2.out.later h) (by decide) lv_fit
 have hrow : FldsAt (w2.alloc (.cells #[.string ⟨#[104, 111, 115, 116]⟩, .string ⟨#[121]⟩, .string ⟨#[116, 101, 97, 109]⟩, .string ⟨#[97]⟩] 46)) (.slice (some ⟨w2.heap.size, 0, none⟩) 2 2) lvF :=
  RdAt.mk rfl (Nat.le_refl _) (by rw [World.size_alloc]; omega) (fun j x hj => by
   rw [Nat.zero_add, cell_of_row _ _ _ _ _ _ (heap_alloc_new _ _)]
   simpa [lvF, fldCells] using hj)
 have hba := alloc_below w2 (.cells #[.string ⟨#[104, 111, 115, 116]⟩, .string ⟨#[121]⟩, .string ⟨#[116, 101, 97, 109]⟩, .string ⟨#[97]⟩] 46)
 have kb := all_any lvF [mT, mH] _ _ _ hrow (by decide) lvF_fit (HM2.out.later hba) (by decide) lv_fit
 have HBA := Lib.hid hba
 rw [lv_all] at kb
 simp only [lv_none] at ka
 clear k2 hs hb2 HM HB1 hrow hba
 go_wp2_with fail
 refine kb.mono ?_
 rintro e w4 ⟨rfl, hb4⟩
 have HB4 := Lib.hid (HBA.out.trans (hb4.mono HBA.out.size))
 have kc := ka w4 HB4.out
 clear ka kb hb4
 go_wp2_with fail
 refine kc.mono ?_
 rintro e w5 ⟨rfl, hb5⟩
 have HB5 := Lib.hid (HB2.out.trans ((HB4.out.trans (hb5.mono HB4.out.size)).mono HB2.out.size))
 clear kc hb5
 go_wp2
 go_ret
 exact ⟨rfl, HB5.out⟩
end Go.Proofs.YtgbapkechngnmaaGreat
