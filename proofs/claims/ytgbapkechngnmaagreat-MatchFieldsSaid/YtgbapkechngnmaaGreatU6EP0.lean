/- What several claims of this seat share: contracts of the functions that they reach. -/
import Derived.Deep.RegionHeld3
import Derived.Test.YtgbapkechngnmaaGreatMaC
import Derived.Test.YtgbapkechngnmaaGreatShelf
import Derived.Tactics
import Derived.Tactics2
import Derived.Defers
import Derived.Laws.Pointers
import Derived.Laws.LoneSync
import Derived.RegionTactic
import Derived.RegionCalls
import Derived.ChangeAlike
import Derived.Laws.NewBlocks
import Derived.Test.YtgbapkechngnmaaGreatBase
import Derived.Shelf.GgClosure.StringsIndexFunc
import Derived.Test.YtgbapkechngnmaaGreatRows
import Derived.WalkSpells
import Derived.Lib.Hide
import Derived.Test.YtgbapkechngnmaaGreatRd
import Derived.Test.YtgbapkechngnmaaGreatBox
import Derived.BigQuiet
import Derived.Deep.QuietTactic
import Derived.Deep.LoopGhost
import Derived.Deep.AppendLies
import Derived.WalkKit
import Derived.WalkLawsBesides
import Derived.Deep.RegionHeldLaw
import Derived.StillTailTactics
import Derived.Deep.MidRow
import Derived.Laws.ResultCell
import Derived.Deep.DeepCutAuto

/- Regions that draw their order, taken by hand: an operation that is wanted, one that its guard leaves out, a call. No program in sight. -/
namespace Go
variable {P : Program} {ops : Array Oper} {Q : Exit → Act → World → Prop} {md : Region.Mode} {S : World → Prop}
theorem held_take {i d : Nat} {oi : Oper} {v : Value} {fuel : Nat} {listed : Array Bool} {a : Act} {w : World} (hi : ops[i]? = some oi) (hd : oi.dst = some d)
  (hs : Region.noSelect ops = true) (hf : Region.free md ops listed i = true) (hr : (Region.ready md ops listed).contains i = true)
  (hQ : ∀ c a w, Q (.panic c) (a.put (some d) v) w → Q (.panic c) a w) (hw : Region.wanted oi (yielded ops a.tmps) = true) (hS : S w)
  (hy : ∀ w, S w → (execOp a.eval oi).run P w = .ok (.value v) w)
  (h : wpAnyH P md ops Q S fuel (listed.setIfInBounds i true) (a.put (some d) v) w) : wpAnyH P md ops Q S (fuel + 1) listed a w :=
 wpAnyH_take hi hs hf hr (by rw [hd]; exact hQ) (.inl ⟨hw, hy⟩) hS (by rw [hd]; exact h)
theorem held_skip {i d : Nat} {oi : Oper} {fuel : Nat} {listed : Array Bool} {a : Act} {w : World} (hi : ops[i]? = some oi) (hd : oi.dst = some d)
  (hs : Region.noSelect ops = true) (hf : Region.free md ops listed i = true) (hr : (Region.ready md ops listed).contains i = true)
  (hQ : ∀ c a w, Q (.panic c) (a.put (some d) undef) w → Q (.panic c) a w) (hw : Region.wanted oi (yielded ops a.tmps) = false) (hS : S w)
  (h : wpAnyH P md ops Q S fuel (listed.setIfInBounds i true) (a.put (some d) undef) w) : wpAnyH P md ops Q S (fuel + 1) listed a w :=
 wpAnyH_take hi hs hf hr (by rw [hd]; exact hQ) (.inr ⟨hw, rfl⟩) hS (by rw [hd]; exact h)
theorem held_call {i : Nat} {oi : Oper} {fuel : Nat} {listed : Array Bool} {a : Act} {w : World} (hi : ops[i]? = some oi) (hr : Region.ready md ops listed = [i]) (hw : Region.wanted oi (yielded ops a.tmps) = true)
  (h : ∀ K' : Act → World → Prop, Shut (∀ a w, S w → (S w → wpAnyH P md ops Q S fuel (listed.setIfInBounds i true) a w) → K' a w) → Oper.wp P oi a w K' Q) : wpAnyH P md ops Q S (fuel + 1) listed a w :=
 wpAnyH_ready hr (by simp) (AllReadyH.cons hi (fun K hK => by rw [if_pos hw]; exact h K hK) AllReadyH.nil)
theorem held_step {i : Nat} {oi : Oper} {fuel : Nat} {listed : Array Bool} {a : Act} {w : World} (hi : ops[i]? = some oi) (hr : Region.ready md ops listed = [i])
  (h : ∀ K' : Act → World → Prop, Shut (∀ a w, S w → (S w → wpAnyH P md ops Q S fuel (listed.setIfInBounds i true) a w) → K' a w) → if Region.wanted oi (yielded ops a.tmps) = true then Oper.wp P oi a w K' Q else K' (a.put oi.dst undef) w) : wpAnyH P md ops Q S (fuel + 1) listed a w :=
 wpAnyH_ready hr (by simp) (AllReadyH.cons hi h AllReadyH.nil)
end Go

namespace Go
universe u_1
variable {P : Program} {ops : Array Oper} {Q : Exit → Act → World → Prop} {md : Region.Mode} {S : World → Prop}
theorem hT {i d : Nat} {oi : Oper} {v : Value} {fuel : Nat} {listed : Array Bool} {a : Act} {w : World} (hi : ops[i]? = some oi) (hd : oi.dst = some d) (hS : S w)
    (hy : ∀ w, S w → (execOp a.eval oi).run P w = .ok (.value v) w)
    (h : wpAnyH P md ops Q S fuel (listed.setIfInBounds i true) (a.put (some d) v) w)
    (hs : Region.noSelect ops = true := by kernel_rfl) (hf : Region.free md ops listed i = true := by kernel_rfl) (hr : (Region.ready md ops listed).contains i = true := by kernel_rfl)
    (hQ : ∀ c a w, Q (.panic c) (a.put (some d) v) w → Q (.panic c) a w := by exact fun _ _ _ h => h) (hw : Region.wanted oi (yielded ops a.tmps) = true := by rfl) : wpAnyH P md ops Q S (fuel + 1) listed a w :=
  held_take hi hd hs hf hr hQ hw hS hy h
theorem aS1 {α : Type u_1} (l : List α) (i : Nat) (a : α) : l.toArray.setIfInBounds i a = (l.set i a).toArray := List.setIfInBounds_toArray l i a
theorem aS2 {α : Type u_1} {x : α} {xs : List α} {a : α} : (x :: xs).set 0 a = a :: xs := rfl
theorem aS3 {α : Type u_1} {x : α} {xs : List α} {i : Nat} {a : α} : (x :: xs).set (i + 1) a = x :: xs.set i a := rfl
def Pl (_ : List Nat) (p : Prop) : Prop := p
theorem plIn (l : List Nat) {p : Prop} (h : Pl l p) : p := h
theorem plOut {p : Prop} (h : p) : Pl [] p := h
theorem hP {i d : Nat} {is : List Nat} {oi : Oper} {v : Value} {fuel : Nat} {listed : Array Bool} {a : Act} {w : World} (hi : ops[i]? = some oi) (hd : oi.dst = some d) (hS : S w)
    (hy : ∀ w, S w → (execOp a.eval oi).run P w = .ok (.value v) w)
    (h : Pl is (wpAnyH P md ops Q S fuel (listed.setIfInBounds i true) (a.put (some d) v) w))
    (hs : Region.noSelect ops = true := by kernel_rfl) (hf : Region.free md ops listed i = true := by kernel_rfl) (hr : (Region.ready md ops listed).contains i = true := by kernel_rfl)
    (hQ : ∀ c a w, Q (.panic c) (a.put (some d) v) w → Q (.panic c) a w := by exact fun _ _ _ h => h) (hw : Region.wanted oi (yielded ops a.tmps) = true := by rfl) : Pl (i :: is) (wpAnyH P md ops Q S (fuel + 1) listed a w) :=
  held_take hi hd hs hf hr hQ hw hS hy h
theorem hK {i d : Nat} {is : List Nat} {oi : Oper} {fuel : Nat} {listed : Array Bool} {a : Act} {w : World} (hi : ops[i]? = some oi) (hd : oi.dst = some d) (hS : S w)
    (h : Pl is (wpAnyH P md ops Q S fuel (listed.setIfInBounds i true) (a.put (some d) undef) w))
    (hs : Region.noSelect ops = true := by kernel_rfl) (hf : Region.free md ops listed i = true := by kernel_rfl) (hr : (Region.ready md ops listed).contains i = true := by kernel_rfl)
    (hQ : ∀ c a w, Q (.panic c) (a.put (some d) undef) w → Q (.panic c) a w := by exact fun _ _ _ h => h) (hw : Region.wanted oi (yielded ops a.tmps) = false := by rfl) : Pl (i :: is) (wpAnyH P md ops Q S (fuel + 1) listed a w) :=
  held_skip hi hd hs hf hr hQ hw hS h
end Go
/- sync.Once in the run of one goroutine; strings.NewReplacer, (*strings.Replacer).Replace, where " and \ are put behind a \: contracts. (The parts: the kit's worked Lazy turned.) -/
namespace Go.Proofs.YtgbapkechngnmaaGreat
open Go.RowKit
theorem ra_disable (w : World) : (callFunc 155 #[]).run Tryz.prog w = .ok (.value (.tuple #[])) w := run_call_mark0 Tryz.func155 (by kernel_rfl) (by kernel_rfl) (by kernel_rfl) .disable (by kernel_rfl) w
theorem ra_enable (w : World) : (callFunc 157 #[]).run Tryz.prog w = .ok (.value (.tuple #[])) w := run_call_mark0 Tryz.func157 (by kernel_rfl) (by kernel_rfl) (by kernel_rfl) .enable (by kernel_rfl) w
theorem ra_acquire (a : Addr) (w : World) : (callFunc 158 #[.pointer (some a)]).run Tryz.prog w = .ok (.value (.tuple #[])) w := run_call_marked Tryz.func158 (by kernel_rfl) (by kernel_rfl) (by kernel_rfl) .acquire (by kernel_rfl) a w
theorem ra_release (a : Addr) (w : World) : (callFunc 160 #[.pointer (some a)]).run Tryz.prog w = .ok (.value (.tuple #[])) w := run_call_marked Tryz.func160 (by kernel_rfl) (by kernel_rfl) (by kernel_rfl) .releaseMerge (by kernel_rfl) a w
theorem store_deferred (a : Addr) (x : Value) (u : FrameMode) (w : World) (hc : w.cell? a = some x) (hz : w.frozen? a = false) :
  CallsD Tryz.prog 117 #[.pointer (some a), .bool true] u w fun e u' w' => u' = u ∧ (e = .returned (.tuple #[]) ∧ w' = w.drew.setCell a (.int .u32 1)) := by
 have hc' : w.drew.cell? a = some x := by go_simp
 have hz' : w.drew.frozen? a = false := by go_simp
 have hst := run_call_store (P := Tryz.prog) Tryz.func134 (by kernel_rfl) (by kernel_rfl) (by kernel_rfl) (by kernel_rfl) (k := .u32) (y := 1) hc' hz'
 go_enter_d Tryz.func117, Tryz.ntmps117
 go_wp2
 go_region_calls
 all_goals (go_end0; exact ⟨rfl, rfl⟩)
set_option maxRecDepth 100000 in
theorem unlock_deferred (a : Addr) (u : FrameMode) (w : World) (hc : w.cell? a = some (.int .i32 1)) (hz : w.frozen? a = false) :
  CallsD Tryz.prog 116 #[.pointer (some a)] u w fun e u' w' => u' = u ∧ (e = .returned (.tuple #[]) ∧ w' = w.setCell a (.int .i32 0)) := by
 have hd := ra_disable
 have he := ra_enable
 have hr := ra_release
 have hadd := run_call_add (P := Tryz.prog) Tryz.func161 (by kernel_rfl) (by kernel_rfl) (by kernel_rfl) .i32 (by kernel_rfl) (y := -1) (s := 0) hc hz (by simp [go_sem]; rfl)
 have hcv := run_convert_to_unsafe (P := Tryz.prog) (src := 221) (dst := 177) Tryz.underlying221 Tryz.underlying177 (by kernel_rfl) hc
 go_enter_d Tryz.func116, Tryz.ntmps116
 go_wp2
 go_end0
 go_wp2
 go_end0
 exact ⟨rfl, rfl⟩
set_option maxRecDepth 100000 in
theorem lock_free (a : Addr) (w : World) (hc : w.cell? a = some (.int .i32 0)) (hz : w.frozen? a = false) :
  Calls Tryz.prog 115 #[.pointer (some a)] w fun e w' => e = .returned (.tuple #[]) ∧ w' = w.setCell a (.int .i32 1) := by
 have hd := ra_disable
 have he := ra_enable
 have ha := ra_acquire
 have hcas := run_call_cas_hit (P := Tryz.prog) Tryz.func156 (by kernel_rfl) (by kernel_rfl) (by kernel_rfl) .i32 (by kernel_rfl) (y := 1) hc hz
 have hc' : (w.setCell a (.int .i32 1)).cell? a = some (.int .i32 1) := World.cell?_setCell_same w a _ hc
 have hcv := run_convert_to_unsafe (P := Tryz.prog) (src := 221) (dst := 177) Tryz.underlying221 Tryz.underlying177 (by kernel_rfl) hc'
 go_enter Tryz.func115, Tryz.ntmps115
 go_wp2
 first | go_end0 | (simp only [Exit.inBlock, Exit.then]; refine bodyPost_ret (results_none rfl _ _ _) rfl ?_) | refine bodyPost_ret (results_none rfl _ _ _) rfl ?_
 go_wp2
 go_end0
 exact ⟨rfl, rfl⟩
theorem block_setCell_o {w : World} {b i k : Nat} {v : Value} (h : k ≠ b) : (w.setCell ⟨b, i, none⟩ v).heap[k]? = w.heap[k]? := by
 simp only [World.setCell, Array.getElem?_modify]
 rw [if_neg (fun e => h e.symm)]
theorem block_setCell_s {w : World} {b i : Nat} {cs : Array Value} {T : TypeId} {fr : Nat × Nat} (hb : w.heap[b]? = some (.cells cs T fr)) (v : Value) :
  (w.setCell ⟨b, i, none⟩ v).heap[b]? = some (.cells (cs.setIfInBounds i v) T fr) := by
 simp [World.setCell, Array.getElem?_modify, hb]
theorem grownBy_trans {w w1 w2 : World} {r : Option Nat} (h : w.grownBy w1 r) (k : w1.grownBy w2 r) : w.grownBy w2 r :=
 ⟨k.os.trans h.os, k.tape.trans h.tape, k.output.trans h.output, Nat.le_trans h.size k.size, fun i hi hr => (k.block i (Nat.lt_of_lt_of_le hi h.size) hr).trans (h.block i hi hr)⟩
theorem grownBy_set {w : World} {b i : Nat} {v : Value} : w.grownBy (w.setCell ⟨b, i, none⟩ v) (some b) :=
 ⟨rfl, rfl, rfl, by rw [World.size_setCell]; exact Nat.le_refl _, fun k _ hr => block_setCell_o (fun e => hr (by rw [e]))⟩
theorem grownBy_below {w w1 : World} {r : Option Nat} (h : Below w.heap.size w w1) : w.grownBy w1 r := below_grown h r
theorem BsR.far {w W : World} {gb a0 c0 a1 c1 t ct b : Nat} {d m : Int} {x2 x3 x4 : Value} (h : BsR w gb a0 c0 a1 c1 t ct) (hb : w.heap[b]? = some (.cells #[.int .u32 d, .int .i32 m, x2, x3, x4] 110 (0, 0)))
  (hg : w.grownBy W (some b)) : BsR W gb a0 c0 a1 c1 t ct := by
 have n0 : gb ≠ b := fun e => by
  subst e
  have := h.q
  rw [cell_of_row _ _ _ _ _ _ hb] at this
  simp at this
 have ne : ∀ {k : Nat} {v : Value}, w.cell? ⟨k, 0, none⟩ = some v → v ≠ .int .u32 d → k ≠ b := fun {k v} hc hv e => by
  subst e
  rw [cell_of_row _ _ _ _ _ _ hb] at hc
  exact hv (Option.some.inj hc).symm
 have n1 := ne h.q0 (by simp)
 have n2 := ne h.b0 (by simp)
 have n3 := ne h.tt0 (by simp)
 have keep : ∀ {k j : Nat} {v : Value}, k ≠ b → w.cell? ⟨k, j, none⟩ = some v → W.cell? ⟨k, j, none⟩ = some v := fun {k j v} hk hc =>
  (World.cell?_of_block (w := w) (a := ⟨k, j, none⟩) (hg.block k (cell_blt hc) (fun e => hk (Option.some.inj e)))).trans hc
 exact ⟨keep n0 h.q, keep n1 h.q0, keep n1 h.q1, keep n0 h.b, keep n2 h.b0, keep n2 h.b1, keep n0 h.tt, keep n3 h.tt0, keep n3 h.tt1, fun j h1 h2 h3 => keep n0 (h.n j h1 h2 h3)⟩
theorem bonce_any (w : World) (b g c : Nat) (m : Int) (h : RepN w b g c m) :
  Calls Tryz.prog 73 #[.pointer (some ⟨b, 0, none⟩)] w fun e w' => e = .returned (.tuple #[]) ∧ ∃ gb a0 c0 a1 c1 t ct,
   w'.heap[b]? = some (.cells #[.int .u32 0, .int .i32 m, .int .u32 0, .iface 176 (.pointer (some ⟨gb, 0, none⟩)), .slice none 0 0] 110 (0, 0)) ∧ BsR w' gb a0 c0 a1 c1 t ct ∧ w.grownBy w' (some b) := by
 have k := rbuild_any w b g c m h
 have hlt : b < w.heap.size := (Array.getElem?_eq_some_iff.1 h.bk).1
 have HB := Lib.hid h.bk
 clear h
 go_enter Tryz.func73, Tryz.ntmps73
 go_wp2_with fail
 refine k.mono ?_
 rintro e w1 ⟨gb, a0, c0, a1, c1, t, ct, rfl, hR, hb1⟩
 have hbk := (hb1.block b hlt).trans HB.out
 have c3 : w1.cell? ⟨b, 3, none⟩ = some .nilIface := by rw [cell_of_row _ _ _ _ _ _ hbk]; rfl
 have c4 : w1.cell? ⟨b, 4, none⟩ = some (.slice (some ⟨g, 0, none⟩) 4 c) := by rw [cell_of_row _ _ _ _ _ _ hbk]; rfl
 have ff : ∀ j, w1.frozen? ⟨b, j, none⟩ = false := fun j => by simp [World.frozen?, hbk]
 have f3 := ff 3
 have f4 := ff 4
 have HR := Lib.hid hR
 have HBK := Lib.hid hbk
 have HB1 := Lib.hid hb1
 clear k hR hbk hb1 ff
 go_wp2
 go_end0
 have hg : w1.grownBy ((w1.setCell ⟨b, 3, none⟩ (.iface 176 (.pointer (some ⟨gb, 0, none⟩)))).setCell ⟨b, 4, none⟩ (.slice none 0 0)) (some b) := grownBy_trans grownBy_set grownBy_set
 refine ⟨rfl, gb, a0, c0, a1, c1, t, ct, ?_, HR.out.far HBK.out hg, grownBy_trans (grownBy_below HB1.out) hg⟩
 exact block_setCell_s (i := 4) (block_setCell_s (i := 3) HBK.out _) _
structure RepB (w : World) (b gb a0 c0 a1 c1 t ct : Nat) : Prop where
 bk : w.heap[b]? = some (.cells #[.int .u32 1, .int .i32 0, .int .u32 0, .iface 176 (.pointer (some ⟨gb, 0, none⟩)), .slice none 0 0] 110 (0, 0))
 r : BsR w gb a0 c0 a1 c1 t ct
set_option maxRecDepth 100000 in
set_option maxHeartbeats 1600000 in
theorem slow_any (w : World) (b g c : Nat) (h : RepN w b g c 0) :
  Calls Tryz.prog 93 #[.pointer (some ⟨b, 0, none⟩), .func (.func 73) #[.pointer (some ⟨b, 0, none⟩)] #[]] w fun e w' => e = .returned (.tuple #[]) ∧ ∃ gb a0 c0 a1 c1 t ct, RepB w' b gb a0 c0 a1 c1 t ct ∧ w.grownBy w' (some b) := by
 have c0 : w.cell? ⟨b, 0, none⟩ = some (.int .u32 0) := by rw [cell_of_row _ _ _ _ _ _ h.bk]; rfl
 have c1 : w.cell? ⟨b, 1, none⟩ = some (.int .i32 0) := by rw [cell_of_row _ _ _ _ _ _ h.bk]; rfl
 have f1 : w.frozen? ⟨b, 1, none⟩ = false := by simp [World.frozen?, h.bk]
 have hg1 : w.grownBy (w.setCell ⟨b, 1, none⟩ (.int .i32 1)) (some b) := grownBy_set
 have hbk1 := block_setCell_s (i := 1) h.bk (.int .i32 1)
 have ng : ∀ {v : Value} {j : Nat}, w.cell? ⟨g, j, none⟩ = some v → (w.setCell ⟨b, 1, none⟩ (.int .i32 1)).cell? ⟨g, j, none⟩ = some v := fun {v j} hc => by
  have n : b ≠ g := fun e => by
   have := h.s0
   rw [← e, c0] at this
   simp at this
  rw [cell_farC n]; exact hc
 have h1 : RepN (w.setCell ⟨b, 1, none⟩ (.int .i32 1)) b g c 1 := ⟨hbk1, ng h.s0, ng h.s1, ng h.s2, ng h.s3⟩
 have kl := lock_free ⟨b, 1, none⟩ w c1 f1
 have kb := bonce_any _ b g c 1 h1
 have hl := run_call_load (P := Tryz.prog) Tryz.func114 (by kernel_rfl) (by kernel_rfl) (by kernel_rfl) .u32 (by kernel_rfl) (w := w.setCell ⟨b, 1, none⟩ (.int .i32 1)) (a := ⟨b, 0, none⟩) (x := 0) (by rw [cell_of_row _ _ _ _ _ _ hbk1]; rfl)
 have hnot : ∀ (x : Bool) (w : World), (Op.unary .not (.bool x)).run Tryz.prog w = .ok (.bool (!x)) w := fun _ _ => rfl
 clear ng hbk1 f1 h h1 c0 c1
 go_enter_defers Tryz.func93, Tryz.ntmps93
 go_wp2_with fail
 refine kl.mono ?_
 rintro e w' ⟨rfl, rfl⟩
 clear kl
 go_wp2_with (go_at_call 92; go_in)
 refine kb.mono ?_
 rintro e w2 ⟨rfl, gb, a0, c0, a1, c1, t, ct, hbk2, hR, hg2⟩
 have d0 : w2.cell? ⟨b, 0, none⟩ = some (.int .u32 0) := by rw [cell_of_row _ _ _ _ _ _ hbk2]; rfl
 have d1 : w2.cell? ⟨b, 1, none⟩ = some (.int .i32 1) := by rw [cell_of_row _ _ _ _ _ _ hbk2]; rfl
 have ff : ∀ j, w2.frozen? ⟨b, j, none⟩ = false := fun j => by simp [World.frozen?, hbk2]
 have HBK := Lib.hid hbk2
 have HR := Lib.hid hR
 have HG := Lib.hid (grownBy_trans hg1 hg2)
 clear kb hl hbk2 hR hg1 hg2
 go_wp2
 refine leaves_cons (f := 117) (args := #[.pointer (some ⟨b, 0, none⟩), .bool true]) (by simp) (by simp [go_sem]) ?_
 refine (store_deferred ⟨b, 0, none⟩ (.int .u32 0) .returning _ d0 (ff 0)).mono ?_
 rintro e u' w'' ⟨rfl, rfl, rfl⟩
 refine leaves_cons (f := 116) (args := #[.pointer (some ⟨b, 1, none⟩)]) (by simp [settle]) (by simp [go_sem]) ?_
 refine (unlock_deferred ⟨b, 1, none⟩ _ _ ?_ (by simp [ff])).mono ?_
 ·exact (World.cell?_setCell_other _ ⟨b, 0, none⟩ ⟨b, 1, none⟩ _ (by simp)).trans (by rw [World.cell?_drew]; exact d1)
 rintro e u' w'' ⟨rfl, rfl, rfl⟩
 have hd : w2.grownBy w2.drew (some b) := grownBy_below ⟨rfl, rfl, rfl, Nat.le_refl _, fun _ _ => rfl⟩
 have hE : w2.grownBy ((w2.drew.setCell ⟨b, 0, none⟩ (.int .u32 1)).setCell ⟨b, 1, none⟩ (.int .i32 0)) (some b) := grownBy_trans hd (grownBy_trans grownBy_set grownBy_set)
 have hF : RepB ((w2.drew.setCell ⟨b, 0, none⟩ (.int .u32 1)).setCell ⟨b, 1, none⟩ (.int .i32 0)) b gb a0 c0 a1 c1 t ct :=
  ⟨block_setCell_s (i := 1) (block_setCell_s (w := w2.drew) (i := 0) HBK.out _) _, HR.out.far HBK.out hE⟩
 have hG := grownBy_trans HG.out hE
 simp [Leaves, settle, results, Tryz.results93]
 exact ⟨⟨gb, a0, c0, a1, c1, t, ct, hF⟩, hG⟩
theorem do_first (w : World) (b g c : Nat) (h : RepN w b g c 0) :
  Calls Tryz.prog 72 #[.pointer (some ⟨b, 0, none⟩), .func (.func 73) #[.pointer (some ⟨b, 0, none⟩)] #[]] w fun e w' => e = .returned (.tuple #[]) ∧ ∃ gb a0 c0 a1 c1 t ct, RepB w' b gb a0 c0 a1 c1 t ct ∧ w.grownBy w' (some b) := by
 have h0 : w.cell? ⟨b, 0, none⟩ = some (.int .u32 0) := by rw [cell_of_row _ _ _ _ _ _ h.bk]; rfl
 have hl := run_call_load (P := Tryz.prog) Tryz.func114 (by kernel_rfl) (by kernel_rfl) (by kernel_rfl) .u32 (by kernel_rfl) h0
 have hnot : ∀ (x : Bool) (w : World), (Op.unary .not (.bool x)).run Tryz.prog w = .ok (.bool (!x)) w := fun _ _ => rfl
 have ks := slow_any w b g c h
 clear h h0
 go_enter Tryz.func72, Tryz.ntmps72
 go_wp2_with (go_at_call 92; go_in)
 refine ks.mono ?_
 rintro e w2 ⟨rfl, hR⟩
 have HR := Lib.hid hR
 clear ks hl hR
 go_wp2
 go_end0
 exact ⟨rfl, HR.out⟩
theorem do_done (w : World) (a : Addr) (d : Int) (hd : ¬ d = 0) (fv : Value) (h0 : w.cell? a = some (.int .u32 d)) :
  Calls Tryz.prog 72 #[.pointer (some a), fv] w fun e w' => e = .returned (.tuple #[]) ∧ w' = w := by
 have hl := run_call_load (P := Tryz.prog) Tryz.func114 (by kernel_rfl) (by kernel_rfl) (by kernel_rfl) .u32 (by kernel_rfl) h0
 have hnot : ∀ (x : Bool) (w : World), (Op.unary .not (.bool x)).run Tryz.prog w = .ok (.bool (!x)) w := fun _ _ => rfl
 have hd' : (d != 0) = true := by simp [hd]
 go_enter Tryz.func72, Tryz.ntmps72
 go_wp2
 go_end0
 exact ⟨rfl, rfl⟩
def RepAt (w : World) (b : Nat) : Prop := (∃ g c, RepN w b g c 0) ∨ (∃ gb a0 c0 a1 c1 t ct, RepB w b gb a0 c0 a1 c1 t ct)
theorem once_any (w : World) (b : Nat) (h : RepAt w b) :
  Calls Tryz.prog 72 #[.pointer (some ⟨b, 0, none⟩), .func (.func 73) #[.pointer (some ⟨b, 0, none⟩)] #[]] w fun e w' => e = .returned (.tuple #[]) ∧ ∃ gb a0 c0 a1 c1 t ct, RepB w' b gb a0 c0 a1 c1 t ct ∧ w.grownBy w' (some b) := by
 rcases h with ⟨g, c, h⟩ | ⟨gb, a0, c0, a1, c1, t, ct, h⟩
 ·exact do_first w b g c h
 ·refine (do_done w ⟨b, 0, none⟩ 1 (by decide) _ (by rw [cell_of_row _ _ _ _ _ _ h.bk]; rfl)).mono ?_
  rintro e w' ⟨rfl, rfl⟩
  exact ⟨rfl, gb, a0, c0, a1, c1, t, ct, h, grownBy_refl _ _⟩
set_option maxHeartbeats 1600000 in
set_option maxRecDepth 100000 in
theorem rrepl_core (w : World) (b : Nat) (s : ByteArray) (hs : s.size ≤ 1000000) (P : World → Prop)
  (ko : Calls Tryz.prog 72 #[.pointer (some ⟨b, 0, none⟩), .func (.func 73) #[.pointer (some ⟨b, 0, none⟩)] #[]] w fun e w' => e = .returned (.tuple #[]) ∧ ∃ gb a0 c0 a1 c1 t ct, RepB w' b gb a0 c0 a1 c1 t ct ∧ P w') :
  Calls Tryz.prog 50 #[.pointer (some ⟨b, 0, none⟩), .string s] w fun e w' => ∃ r w1, e = .returned (.string r) ∧ B r = escB (B s) ∧ P w1 ∧ (∃ gb a0 c0 a1 c1 t ct, RepB w' b gb a0 c0 a1 c1 t ct) ∧ Below w1.heap.size w1 w' := by
 have kc : ∀ c W, Calls Tryz.prog 209 #[.string s, .string ⟨#[c]⟩] W fun e w' => e = .returned (.int .i64 ((B s).count c)) ∧ w' = W := fun c W => Tryz.strings_Count_one s c W
 go_enter Tryz.func50, Tryz.ntmps50
 go_wp2_with fail
 refine ko.mono ?_
 rintro e w1 ⟨rfl, gb, a0, c0, a1, c1, t, ct, hR, hP⟩
 have kr := bsr_any s w1 gb a0 c0 a1 c1 t ct hR.r hs kc
 have c3 : w1.cell? ⟨b, 3, none⟩ = some (.iface 176 (.pointer (some ⟨gb, 0, none⟩))) := by rw [cell_of_row _ _ _ _ _ _ hR.bk]; rfl
 have HR := Lib.hid hR
 have HP := Lib.hid hP
 have hm : ∀ w : World, (method 371 176 (.pointer (some ⟨gb, 0, none⟩)) "Replace").run Tryz.prog w = .ok (207, .pointer (some ⟨gb, 0, none⟩)) w := fun _ => by kernel_rfl
 clear ko kc hR hP
 go_wp2_with fail
 refine kr.mono ?_
 rintro e w2 ⟨r, rfl, hr, hb2⟩
 have HB := Lib.hid hr
 have HB2 := Lib.hid hb2
 clear kr hr hb2
 go_wp2
 go_ret
 have hlt : b < w1.heap.size := (Array.getElem?_eq_some_iff.1 HR.out.bk).1
 exact ⟨r, w1, rfl, HB.out, HP.out, ⟨gb, a0, c0, a1, c1, t, ct, (HB2.out.block b hlt).trans HR.out.bk, HR.out.r.later HB2.out⟩, HB2.out⟩
theorem rreplace_any (w : World) (b : Nat) (s : ByteArray) (h : RepAt w b) (hs : s.size ≤ 1000000) :
  Calls Tryz.prog 50 #[.pointer (some ⟨b, 0, none⟩), .string s] w fun e w' => ∃ r, e = .returned (.string r) ∧ B r = escB (B s) ∧ (∃ gb a0 c0 a1 c1 t ct, RepB w' b gb a0 c0 a1 c1 t ct) ∧ w.grownBy w' (some b) := by
 refine (rrepl_core w b s hs (fun W => w.grownBy W (some b)) (once_any w b h)).mono ?_
 rintro e w' ⟨r, w1, rfl, hr, hg, hR, hb⟩
 exact ⟨r, rfl, hr, hR, grownBy_trans hg (grownBy_below hb)⟩
theorem rrepS_any (w : World) (b gb a0 c0 a1 c1 t ct : Nat) (s : ByteArray) (h : RepB w b gb a0 c0 a1 c1 t ct) (hs : s.size ≤ 1000000) :
  Calls Tryz.prog 50 #[.pointer (some ⟨b, 0, none⟩), .string s] w fun e w' => ∃ r, e = .returned (.string r) ∧ B r = escB (B s) ∧ Below w.heap.size w w' := by
 refine (rrepl_core w b s hs (fun W => W = w) ?_).mono ?_
 ·refine (do_done w ⟨b, 0, none⟩ 1 (by decide) _ (by rw [cell_of_row _ _ _ _ _ _ h.bk]; rfl)).mono ?_
  rintro e w' ⟨rfl, rfl⟩
  exact ⟨rfl, gb, a0, c0, a1, c1, t, ct, h, rfl⟩
 ·rintro e w' ⟨r, w1, rfl, hr, rfl, _, hb⟩
  exact ⟨r, rfl, hr, hb⟩
theorem strs4_cells (a b c d : ByteArray) : ∀ y ∈ ([.string a, .string b, .string c, .string d] : List Value), y.oneCell' = true := by
 intro y hy
 simp at hy
 rcases hy with rfl | rfl | rfl | rfl <;> rfl
set_option maxHeartbeats 1600000 in
set_option maxRecDepth 100000 in
theorem newrep_any (w : World) (g : Nat) (hg : w.heap[g]? = some (.cells #[.string ⟨#[34]⟩, .string ⟨#[92, 34]⟩, .string ⟨#[92]⟩, .string ⟨#[92, 92]⟩] 9 (0, 0))) :
  Calls Tryz.prog 48 #[.slice (some ⟨g, 0, none⟩) 4 4] w fun e w' => ∃ b, e = .returned (.pointer (some ⟨b, 0, none⟩)) ∧ RepAt w' b ∧ Below w.heap.size w w' ∧ w.heap.size ≤ b := by
 obtain ⟨i0, hi, hz0, hz1, hz2⟩ := info_parts info_strC
 have hnews := World.news_of_block hg
 clear hg
 go_enter Tryz.func48, Tryz.ntmps48
 go_wp2_with (at_builtin; (refine wpList_append_lies _ rfl _ (.tmp 8) 49 rfl w.heap.size 9 i0 (.string ⟨#[]⟩) 1 16 Tryz.underlying49 hi hz0 hz1 hz2 rfl (by decide) _ 0 [] rfl (World.ownsRow_nil _ _ _ _) ⟨g, 0, none⟩ 4 4 _ rfl rfl hnews (strs4_cells _ _ _ _) (by decide) (by decide) (by decide) (Nat.le_refl _) _ rfl ?_); intro q cap w1 hown hgrow hat hlt; have HO := Lib.hid hown; have HG := Lib.hid hgrow; clear hown hgrow hat hlt)
 go_ret
 have hB : Below w.heap.size w w1 := (Below.refl _ _).grown HG.out (Nat.le_refl _) (fun k hk => by cases hk)
 have hc := fun j hj => HO.out.cellAt j hj
 refine ⟨w1.heap.size, rfl, .inl ⟨q, cap, ⟨heap_alloc_new _ _, ?_, ?_, ?_, ?_⟩⟩, hB.alloc hB.size _, hB.size⟩
 ·exact keep_cell (hc 0 (by decide)) (alloc_below _ _) (cell_blt (hc 0 (by decide)))
 ·exact keep_cell (hc 1 (by decide)) (alloc_below _ _) (cell_blt (hc 1 (by decide)))
 ·exact keep_cell (hc 2 (by decide)) (alloc_below _ _) (cell_blt (hc 2 (by decide)))
 ·exact keep_cell (hc 3 (by decide)) (alloc_below _ _) (cell_blt (hc 3 (by decide)))
end Go.Proofs.YtgbapkechngnmaaGreat
/- Runes of a text, and its bytes: a predicate that holds of ASCII alone is found at a rune where it is found at a byte. No program in sight. -/
namespace Go.Proofs.YtgbapkechngnmaaGreat
open Go.RowKit
theorem get!_B (s : ByteArray) (j : Nat) (h : j < s.size) : s.get! j = s[j] := by
 simp [ByteArray.get!, h, getElem!_pos]; rfl
theorem decode_high (s : ByteArray) (pos : Nat) (h : pos < s.size) (ha : 128 ≤ (s[pos]'h).toNat) :
  128 ≤ (Utf8.decode s pos).1 ∧ 1 ≤ (Utf8.decode s pos).2 ∧ pos + (Utf8.decode s pos).2 ≤ s.size ∧
  ∀ j (hj : j < s.size), pos ≤ j → j < pos + (Utf8.decode s pos).2 → 128 ≤ (s[j]'hj).toNat := by
 have g0 : (s.get! (pos + 0)).toNat = (s[pos]'h).toNat := by rw [Nat.add_zero, get!_B s pos h]
 have one : ∀ r : Nat, 128 ≤ r → 128 ≤ ((r, 1) : Nat × Nat).1 ∧ 1 ≤ ((r, 1) : Nat × Nat).2 ∧ pos + ((r, 1) : Nat × Nat).2 ≤ s.size ∧
   ∀ j (hj : j < s.size), pos ≤ j → j < pos + ((r, 1) : Nat × Nat).2 → 128 ≤ (s[j]'hj).toNat := by
  intro r hr
  refine ⟨hr, Nat.le_refl _, h, fun j hj h1 h2 => ?_⟩
  obtain rfl : j = pos := by simp at h2; omega
  exact ha
 have cc : ∀ k, (decide (pos + k < s.size) && ((s.get! (pos + k)).toNat / 64 == 2)) = true → ∃ hk : pos + k < s.size, 128 ≤ (s[pos + k]'hk).toNat := by
  intro k hk
  simp only [Bool.and_eq_true, decide_eq_true_eq, beq_iff_eq] at hk
  refine ⟨hk.1, ?_⟩
  rw [← get!_B s (pos + k) hk.1]
  omega
 unfold Utf8.decode
 simp only [g0]
 rw [if_neg (by omega)]
 split
 ·rename_i h2
  simp only [Bool.and_eq_true] at h2
  obtain ⟨k1, c1⟩ := cc 1 (by simpa using h2.2)
  split
  ·refine ⟨by assumption, by simp, by simp; omega, fun j hj h1 h2 => ?_⟩
   simp at h2
   rcases (show j = pos ∨ j = pos + 1 by omega) with rfl | rfl
   ·exact ha
   ·exact c1
  ·exact one _ (by decide)
 split
 ·rename_i h2
  simp only [Bool.and_eq_true] at h2
  obtain ⟨k1, c1⟩ := cc 1 (by simpa using h2.1.2)
  obtain ⟨k2, c2⟩ := cc 2 (by simpa using h2.2)
  split
  ·rename_i h3
   simp only [Bool.and_eq_true, decide_eq_true_eq] at h3
   refine ⟨by have := h3.1; simp at this ⊢; omega, by simp, by simp; omega, fun j hj h1 h2 => ?_⟩
   simp at h2
   rcases (show j = pos ∨ j = pos + 1 ∨ j = pos + 2 by omega) with rfl | rfl | rfl
   ·exact ha
   ·exact c1
   ·exact c2
  ·exact one _ (by decide)
 split
 ·rename_i h2
  simp only [Bool.and_eq_true] at h2
  obtain ⟨k1, c1⟩ := cc 1 (by simpa using h2.1.1.2)
  obtain ⟨k2, c2⟩ := cc 2 (by simpa using h2.1.2)
  obtain ⟨k3, c3⟩ := cc 3 (by simpa using h2.2)
  split
  ·rename_i h3
   simp only [Bool.and_eq_true, decide_eq_true_eq] at h3
   refine ⟨by have := h3.1; simp at this ⊢; omega, by simp, by simp; omega, fun j hj h1 h2 => ?_⟩
   simp at h2
   rcases (show j = pos ∨ j = pos + 1 ∨ j = pos + 2 ∨ j = pos + 3 by omega) with rfl | rfl | rfl | rfl
   ·exact ha
   ·exact c1
   ·exact c2
   ·exact c3
  ·exact one _ (by decide)
 ·exact one _ (by decide)
theorem idxFuncFrom_bytes (p : Nat → Bool) (d : Bool) (hp : ∀ x, 128 ≤ x → p x = d) (s : ByteArray) : ∀ (f pos : Nat), s.size ≤ pos + f →
  (decide (0 ≤ Lib.idxFuncFrom p true s f pos)) = ((B s).drop pos).any (fun c => p c.toNat)
 | 0, pos, h => by
  rw [List.drop_of_length_le (by rw [len_B]; omega)]
  rfl
 | f + 1, pos, h => by
  unfold Lib.idxFuncFrom
  by_cases hps : pos < s.size
  ·rw [if_pos hps]
   by_cases ha : (s[pos]'hps).toNat < 128
   ·rw [decode_ascii s pos hps ha]
    have ed : (B s).drop pos = s[pos] :: (B s).drop (pos + 1) := by
     rw [List.drop_eq_getElem_cons (by rw [len_B]; exact hps)]; rfl
    rw [ed, List.any_cons]
    by_cases hpp : p (s[pos]).toNat = true
    ·rw [if_pos hpp, hpp]; simp
    ·rw [if_neg hpp, idxFuncFrom_bytes p d hp s f (pos + 1) (by omega)]
     simp [Bool.eq_false_iff.2 hpp]
   ·obtain ⟨d1, d2, d3, d4⟩ := decode_high s pos hps (by omega)
    cases d
    case true =>
     rw [if_pos (hp _ d1)]
     have ed : (B s).drop pos = s[pos] :: (B s).drop (pos + 1) := by
      rw [List.drop_eq_getElem_cons (by rw [len_B]; exact hps)]; rfl
     rw [ed, List.any_cons, hp _ (by omega)]
     simp
    rw [if_neg (by rw [hp _ d1]; decide), idxFuncFrom_bytes p false hp s f _ (by omega)]
    generalize (Utf8.decode s pos).2 = w at *
    have ed : (B s).drop pos = ((B s).drop pos).take w ++ (B s).drop (pos + w) := by
     rw [← List.drop_drop]; exact (List.take_append_drop _ _).symm
    rw [ed, List.any_append]
    have : (((B s).drop pos).take w).any (fun c => p c.toNat) = false := by
     rw [List.any_eq_false]
     intro x hx
     obtain ⟨i, hi, rfl⟩ := List.getElem_of_mem hx
     simp only [List.getElem_take, List.getElem_drop]
     have hi' : i < w := by rw [List.length_take] at hi; omega
     have := d4 (pos + i) (by omega) (by omega) (by omega)
     rw [Bool.not_eq_true]; exact hp _ this
    rw [this]; rfl
  ·rw [if_neg hps, List.drop_of_length_le (by rw [len_B]; omega)]
   rfl
theorem idxFunc_bytes (p : Nat → Bool) (d : Bool) (hp : ∀ x, 128 ≤ x → p x = d) (s : ByteArray) :
  (decide (0 ≤ Lib.idxFunc p true s)) = (B s).any (fun c => p c.toNat) := by
 rw [Lib.idxFunc, idxFuncFrom_bytes p d hp s s.size 0 (by omega)]; rfl
end Go.Proofs.YtgbapkechngnmaaGreat
/- match.Name: a contract. -/
namespace Go.Proofs.YtgbapkechngnmaaGreat
open Go.RowKit
def oddN (x : Nat) : Bool := ((x : Int) != 95) && (decide ((x : Int) < 97) || decide (122 < (x : Int))) && (decide ((x : Int) < 48) || decide (57 < (x : Int)))
def digN (x : Nat) : Bool := decide (48 ≤ (x : Int)) && decide ((x : Int) ≤ 57)
def nameL (l : List UInt8) : Bool := !l.isEmpty && decide (l.length ≤ 12) && !(l.head?.any fun c => digN c.toNat) && !(l.any fun c => oddN c.toNat)
set_option maxHeartbeats 400000 in
theorem nodd_any (x : Nat) (hx : x ≤ 1114111) (w : World) :
  Calls Tryz.prog 56 #[.int .i32 x] w fun e w' => e = .returned (.bool (oddN x)) ∧ ∃ q, w' = w.drewN q := by
 have H : Hid (oddN x = (((x : Int) != 95) && (decide ((x : Int) < 97) || decide (122 < (x : Int))) && (decide ((x : Int) < 48) || decide (57 < (x : Int))))) := rfl
 cases h1 : ((x : Int) != 95)
 ·go_enter Tryz.func56, Tryz.ntmps56
  go_wp2
  go_ret
  exact ⟨by rw [H.out, h1]; rfl, 0, rfl⟩
 ·rcases (show (x : Int) < 48 ∨ (48 ≤ (x : Int) ∧ (x : Int) ≤ 57) ∨ (57 < (x : Int) ∧ (x : Int) < 97) ∨ (97 ≤ (x : Int) ∧ (x : Int) ≤ 122) ∨ 122 < (x : Int) by omega) with h | ⟨h, h'⟩ | ⟨h, h'⟩ | ⟨h, h'⟩ | h
  all_goals
   go_enter Tryz.func56, Tryz.ntmps56
   go_wp2
   go_ret
   refine ⟨?_, 0, rfl⟩
   rw [H.out, h1]
   first
    | (rw [decide_eq_true (show (x : Int) < 97 by omega), decide_eq_true (show (x : Int) < 48 by omega)]; rfl)
    | (rw [decide_eq_true (show (x : Int) < 97 by omega), decide_eq_false (show ¬ (x : Int) < 48 by omega), decide_eq_false (show ¬ 57 < (x : Int) by omega)]; rfl)
    | (rw [decide_eq_true (show (x : Int) < 97 by omega), decide_eq_false (show ¬ (x : Int) < 48 by omega), decide_eq_true (show 57 < (x : Int) by omega)]; rfl)
    | (rw [decide_eq_false (show ¬ (x : Int) < 97 by omega), decide_eq_false (show ¬ 122 < (x : Int) by omega)]; rfl)
    | (rw [decide_eq_false (show ¬ (x : Int) < 97 by omega), decide_eq_true (show 122 < (x : Int) by omega), decide_eq_false (show ¬ (x : Int) < 48 by omega), decide_eq_true (show 57 < (x : Int) by omega)]; rfl)
theorem name_odd (s : ByteArray) (w : World) :
  Calls Tryz.prog 55 #[.string s, .func (.func 56) #[] #[]] w fun e w' => e = .returned (.bool ((B s).any fun c => oddN c.toNat)) ∧ Below w.heap.size w w' := by
 have h := Tryz.strings_ContainsFunc_runes 56 #[] (enters_of Tryz.func56 (by kernel_rfl) rfl) oddN s w (fun W x hx _ => nodd_any x hx W)
 rw [idxFunc_bytes oddN true (fun x hx => by
  have h1 : ((x : Int) != 95) = true := by rw [bne_iff_ne]; omega
  have h2 : decide (122 < (x : Int)) = true := by rw [decide_eq_true_eq]; omega
  have h3 : decide (57 < (x : Int)) = true := by rw [decide_eq_true_eq]; omega
  rw [oddN, h1, h2, h3]; simp) s] at h
 exact h
set_option maxHeartbeats 400000 in
theorem name_any (s : ByteArray) (w : World) (hs : s.size ≤ maxLen) :
  Calls Tryz.prog 25 #[.string s] w fun e w' => e = .returned (.bool (nameL (B s))) ∧ Below w.heap.size w w' := by
 unfold maxLen at hs
 by_cases h0 : s.toList = []
 ·have HR : Hid (nameL (B s) = false) := by
   show _ = _
   rw [← toList_B, h0]; rfl
  go_enter Tryz.func25, Tryz.ntmps25
  go_wp2
  go_ret
  exact ⟨by rw [HR.out]; rfl, Below.refl _ _⟩
 have h0' : s.toList.isEmpty = false := by simpa using h0
 have hpos : 0 < s.size := by rw [← len_B, ← toList_B]; exact List.length_pos_iff.2 h0
 by_cases h12 : 12 < s.size
 ·have HR : Hid (nameL (B s) = false) := by
   show _ = _
   rw [nameL, decide_eq_false (by rw [len_B]; omega)]
   simp
  clear h0
  go_enter Tryz.func25, Tryz.ntmps25
  go_wp2
  go_ret
  exact ⟨by rw [HR.out]; rfl, Below.refl _ _⟩
 have hh : (B s).head? = some s[0] := by rw [List.head?_eq_getElem?]; exact List.getElem?_eq_getElem (by rw [len_B]; exact hpos)
 by_cases hd : (48 : Int) ≤ (s[0].toNat : Int) ∧ (s[0].toNat : Int) ≤ 57
 ·obtain ⟨hd1, hd2⟩ := hd
  have HR : Hid (nameL (B s) = false) := by
   show _ = _
   have e2 : digN s[0].toNat = true := by
    simp only [digN, Bool.and_eq_true, decide_eq_true_eq]; omega
   rw [nameL, hh]
   simp [e2]
  clear h0 hh
  go_enter Tryz.func25, Tryz.ntmps25
  go_wp2
  go_ret
  exact ⟨by rw [HR.out]; rfl, Below.refl _ _⟩
 ·have HR : Hid (nameL (B s) = !((B s).any fun c => oddN c.toNat)) := by
   show _ = _
   have e1 : (B s).isEmpty = false := by rw [← toList_B]; exact h0'
   have e2 : digN s[0].toNat = false := by
    simp only [digN, Bool.and_eq_false_iff, decide_eq_false_iff_not]; omega
   rw [nameL, hh, e1, decide_eq_true (by rw [len_B]; omega)]
   simp [e2]
  have hodd := name_odd s w
  generalize ((B s).any fun c => oddN c.toNat) = o at *
  clear h0 hh
  rcases (show (s[0].toNat : Int) < 48 ∨ ((48 : Int) ≤ (s[0].toNat : Int) ∧ 57 < (s[0].toNat : Int)) by omega) with h | ⟨h, h'⟩
  all_goals
   clear hd
   go_enter Tryz.func25, Tryz.ntmps25
   go_wp2_with (go_at_call 55; refine hodd.mono ?_; rintro e w' ⟨rfl, hb⟩)
   go_ret
   exact ⟨by rw [HR.out]; rfl, hb⟩
end Go.Proofs.YtgbapkechngnmaaGreat
/- Fields: what lies in memory; match.Right: a contract. -/
namespace Go.Proofs.YtgbapkechngnmaaGreat
open Go.RowKit
abbrev Fld := ByteArray × ByteArray
def fldCells : List Fld → List Value
 | [] => []
 | f :: l => .string f.1 :: .string f.2 :: fldCells l
theorem fldCells_len (l : List Fld) : (fldCells l).length = l.length * 2 := by
 induction l with
 | nil => rfl
 | cons s l ih => simp [fldCells, ih]; omega
theorem fldCells_append (a b : List Fld) : fldCells (a ++ b) = fldCells a ++ fldCells b := by
 induction a with
 | nil => rfl
 | cons s l ih => simp [fldCells, ih]
theorem fldCells_at (l : List Fld) (i : Nat) (h : i < l.length) : (fldCells l)[i * 2]? = some (.string l[i].1) ∧ (fldCells l)[i * 2 + 1]? = some (.string l[i].2) := by
 induction l generalizing i with
 | nil => cases h
 | cons s l ih =>
  cases i with
  | zero => simp [fldCells]
  | succ i =>
   obtain ⟨h1, h2⟩ := ih i (by simpa using h)
   have e : (i + 1) * 2 = i * 2 + 2 := by omega
   rw [e]
   simp only [fldCells, List.getElem_cons_succ]
   refine ⟨?_, ?_⟩
   ·rw [show i * 2 + 2 = i * 2 + 1 + 1 by omega]; simpa using h1
   ·rw [show i * 2 + 2 + 1 = i * 2 + 1 + 1 + 1 by omega]; simpa using h2
def FldsAt (w : World) (v : Value) (l : List Fld) : Prop := RdAt w v l.length 2 (fldCells l)
theorem FldsAt.later {w w' : World} {v : Value} {l : List Fld} (h : FldsAt w v l) (hb : Below w.heap.size w w') : FldsAt w' v l := RdAt.later h hb
def FldsFit (l : List Fld) : Prop := ∀ f ∈ l, f.1.size ≤ maxLen ∧ f.2.size ≤ maxLen
def ltS (a b : ByteArray) : Bool := Op.bytesLess a.toList b.toList
def fldOk (l : List Fld) (j : Nat) : Bool := nameL (B (l.getD j default).1) && decide ((l.getD j default).2.size ≤ 200) && (decide (j = 0) || ltS (l.getD (j - 1) default).1 (l.getD j default).1)
def rightF (l : List Fld) : Bool := decide (l.length ≤ 8) && (List.range l.length).all fun j => fldOk l j
theorem rightF_bad {l : List Fld} {j : Nat} (hj : j < l.length) (h : fldOk l j = false) : rightF l = false := by
 unfold rightF
 rw [Bool.and_eq_false_iff]
 right
 rw [List.all_eq_false]
 exact ⟨j, List.mem_range.2 hj, by rw [h]; simp⟩
theorem rightF_good {l : List Fld} (h : ∀ j, j < l.length → fldOk l j = true) : rightF l = decide (l.length ≤ 8) := by
 unfold rightF
 rw [show ((List.range l.length).all fun j => fldOk l j) = true from List.all_eq_true.2 (fun j hj => h j (List.mem_range.1 hj)), Bool.and_true]
set_option maxHeartbeats 1600000 in
set_option maxRecDepth 100000 in
theorem rightf_any (l : List Fld) (w : World) (v : Value) (hv : FldsAt w v l) (hf : FldsFit l) (hl : l.length ≤ maxLen) :
  Calls Tryz.prog 30 #[v] w fun e w' => e = .returned (.bool (rightF l)) ∧ Below w.heap.size w w' := by
 unfold maxLen at hl
 obtain ⟨a, c, rfl, hc, hr⟩ := RdAt.shape hv
 have HR := Lib.hid hr
 have HF := Lib.hid hf
 clear hr hv hf
 go_enter Tryz.func30, Tryz.ntmps30
 go_wp2
 go_loopw [7] (fun i wr => ∃ k : Nat, k ≤ l.length ∧ i = .int .i64 k ∧ Hid (∀ j, j < k → fldOk l j = true) ∧ Below w.heap.size w wr) (fun i _ => l.length - (intOf i).toNat)
 case atStart => exact ⟨0, Nat.zero_le _, rfl, Lib.hid (fun j hj => absurd hj (Nat.not_lt_zero j)), Below.refl _ _⟩
 case round =>
  obtain ⟨k, hk, rfl, HT, hbr⟩ := hrel
  by_cases hkl : k < l.length
  ·obtain ⟨b, o, rfl, hb, hcell⟩ := HR.out (by omega)
   obtain ⟨x, hxe⟩ : ∃ x, l[k].1 = x := ⟨_, rfl⟩
   obtain ⟨y, hye⟩ : ∃ y, l[k].2 = y := ⟨_, rfl⟩
   have hfs := HF.out _ (List.getElem_mem hkl)
   rw [hxe, hye] at hfs
   obtain ⟨hx0, hy0⟩ := fldCells_at l k hkl
   rw [hxe] at hx0
   rw [hye] at hy0
   have hcx : wr.cell? ⟨b, o + k * 2, none⟩ = some (.string x) := keep_cell (hcell _ _ hx0) hbr hb
   have hcy : wr.cell? ⟨b, o + k * 2 + 1, none⟩ = some (.string y) := keep_cell (hcell _ _ hy0) hbr hb
   have hn : ∀ W, Calls Tryz.prog 25 #[.string x] W fun e w' => e = .returned (.bool (nameL (B x))) ∧ Below W.heap.size W w' := fun W => name_any x W hfs.1
   have hys : y.size ≤ 9223372036854775807 := by have := hfs.2; unfold maxLen at this; omega
   have hstep : fldOk l k = true → Hid (∀ j, j < k + 1 → fldOk l j = true) := fun h => Lib.hid (fun j hj => by
    rcases Nat.lt_or_ge j k with h' | h'
    ·exact HT.out j h'
    ·obtain rfl : j = k := by omega
     exact h)
   have hbad : fldOk l k = false → Hid (rightF l = false) := fun h => rightF_bad hkl h
   have hgx : l.getD k default = (x, y) := by rw [List.getD_eq_getElem?_getD, List.getElem?_eq_getElem hkl]; show l[k] = _; rw [← hxe, ← hye]
   have hgz : ∀ m z, k = m + 1 → l[m]?.map (·.1) = some z → (l.getD (k - 1) default).1 = z := fun m z hm hz => by
    subst hm
    rw [Nat.add_sub_cancel, List.getD_eq_getElem?_getD]
    cases h : l[m]? with
    | none => rw [h] at hz; cases hz
    | some f => rw [h] at hz; simpa using hz
   unfold fldOk at hstep hbad
   rw [hgx] at hstep hbad
   go_wp2
   have hba : Below w.heap.size w (wr.alloc (.cells #[.string x, .string y] 46)) := hbr.alloc hbr.size _
   have a0 := World.cell?_alloc_at #[.string x, .string y] 46 wr.heap.size 0 rfl
   have a1 := World.cell?_alloc_at #[.string x, .string y] 46 wr.heap.size 1 rfl
   have hwa : wr.heap.size < (wr.alloc (.cells #[.string x, .string y] 46)).heap.size := by rw [World.size_alloc]; omega
   have hwb : b < (wr.alloc (.cells #[.string x, .string y] 46)).heap.size := Nat.lt_of_lt_of_le hb hba.size
   have hall : ∀ j v, (fldCells l)[j]? = some v → (wr.alloc (.cells #[.string x, .string y] 46)).cell? ⟨b, o + j, none⟩ = some v := fun j v hj => keep_cell (hcell _ _ hj) hba hb
   generalize wr.alloc (.cells #[.string x, .string y] 46) = wa at *
   change wa.cell? _ = some (.string x) at a0
   change wa.cell? _ = some (.string y) at a1
   clear hcx hcy hcell hx0 hy0 hxe hye hfs hgx HT
   cases hnm : nameL (B x)
   ·have HZ := hbad (by rw [hnm]; rfl)
    rw [hnm] at hn
    clear hstep hbad hall hgz hnm
    go_wp2_with fail
    refine wp_region_held_drew (S := (fun w' => w'.cell? ⟨wr.heap.size, 0, none⟩ = some (.string x) ∧ w'.cell? ⟨wr.heap.size, 1, none⟩ = some (.string y))) (by kernel_rfl) ⟨a0, a1⟩ (fun hHeld => ?_)
    refine plIn [0, 1] ?_
    iterate 2
     refine hP (v := ?_) rfl rfl hHeld ?_ ?_
     rotate_left
     ·rintro wh ⟨z0, z1⟩
      go_simp
      (try with_reducible rfl)
     simp only [Act.put, List.setIfInBounds_toArray, List.set_cons_zero, List.set_cons_succ]
    refine plOut ?_
    refine held_call (i := 2) rfl (by kernel_rfl) (by rfl) (fun K hK => ?_)
    (go_simp; go_at_call 25; refine (hn _).mono ?_; rintro e w1 ⟨rfl, hb1⟩; have hB1 : Below wa.heap.size wa w1 := ((Below.refl _ _).drew).trans hb1)
    refine hK.out _ _ ⟨keep_cell a0 hB1 hwa, keep_cell a1 hB1 hwa⟩ (fun hHeld => ?_)
    clear hK K
    (try simp only [Act.put, List.setIfInBounds_toArray, List.set_cons_zero, List.set_cons_succ])
    refine plIn [3, 4] ?_
    iterate 2
     refine hP (v := ?_) rfl rfl hHeld ?_ ?_
     rotate_left
     ·rintro wh ⟨z0, z1⟩
      go_simp
      (try with_reducible rfl)
     simp only [Act.put, List.setIfInBounds_toArray, List.set_cons_zero, List.set_cons_succ]
    refine plOut ?_
    refine plIn [5, 6, 7, 8] ?_
    iterate 4
     refine hK rfl rfl hHeld ?_
     simp only [Act.put, List.setIfInBounds_toArray, List.set_cons_zero, List.set_cons_succ]
    refine plOut ?_
    refine plIn [9, 10] ?_
    iterate 2
     refine hP (v := ?_) rfl rfl hHeld ?_ ?_
     rotate_left
     ·rintro wh ⟨z0, z1⟩
      go_simp
      (try with_reducible rfl)
     simp only [Act.put, List.setIfInBounds_toArray, List.set_cons_zero, List.set_cons_succ]
    refine plOut ?_
    refine plIn [11, 12, 13, 14, 15, 16, 17, 18, 19, 20, 21, 22, 23] ?_
    iterate 13
     refine hK rfl rfl hHeld ?_
     simp only [Act.put, List.setIfInBounds_toArray, List.set_cons_zero, List.set_cons_succ]
    refine plOut ?_
    refine hT (i := 24) (v := ?_) rfl rfl hHeld ?_ ?_
    rotate_left
    ·rintro wh ⟨z0, z1⟩
     go_simp
     (try with_reducible rfl)
    simp only [Act.put, List.setIfInBounds_toArray, List.set_cons_zero, List.set_cons_succ]
    refine wpAnyH_done (by kernel_rfl) ?_ _
    all_goals (
     have hbn : Below w.heap.size w w1 := hba.trans (hB1.mono hba.size)
     clear hb1 hB1 hn
     go_wp2
     go_ret
     exact ⟨by rw [HZ.out]; rfl, hbn⟩)
   ·rw [hnm] at hn
    by_cases hy2 : y.size ≤ 200
    ·have g1 : decide ((200 : Int) < (y.size : Int)) = false := decide_eq_false (by omega)
     rcases Nat.eq_zero_or_pos k with hk0 | hk0
     ·have HN := hstep (by rw [hnm, decide_eq_true hy2, decide_eq_true hk0]; rfl)
      subst hk0
      clear hstep hbad hall hgz hnm hy2
      go_wp2_with fail
      refine wp_region_held_drew (S := (fun w' => w'.cell? ⟨wr.heap.size, 0, none⟩ = some (.string x) ∧ w'.cell? ⟨wr.heap.size, 1, none⟩ = some (.string y))) (by kernel_rfl) ⟨a0, a1⟩ (fun hHeld => ?_)
      refine plIn [0, 1] ?_
      iterate 2
       refine hP (v := ?_) rfl rfl hHeld ?_ ?_
       rotate_left
       ·rintro wh ⟨z0, z1⟩
        go_simp
        (try with_reducible rfl)
       simp only [Act.put, List.setIfInBounds_toArray, List.set_cons_zero, List.set_cons_succ]
      refine plOut ?_
      refine held_call (i := 2) rfl (by kernel_rfl) (by rfl) (fun K hK => ?_)
      (go_simp; go_at_call 25; refine (hn _).mono ?_; rintro e w1 ⟨rfl, hb1⟩; have hB1 : Below wa.heap.size wa w1 := ((Below.refl _ _).drew).trans hb1)
      refine hK.out _ _ ⟨keep_cell a0 hB1 hwa, keep_cell a1 hB1 hwa⟩ (fun hHeld => ?_)
      clear hK K
      (try simp only [Act.put, List.setIfInBounds_toArray, List.set_cons_zero, List.set_cons_succ])
      refine plIn [3, 4, 5, 6, 7, 8, 9, 10, 11, 12, 13] ?_
      iterate 11
       refine hP (v := ?_) rfl rfl hHeld ?_ ?_
       rotate_left
       ·rintro wh ⟨z0, z1⟩
        go_simp
        (try with_reducible rfl)
       simp only [Act.put, List.setIfInBounds_toArray, List.set_cons_zero, List.set_cons_succ]
      refine plOut ?_
      refine plIn [14, 15, 16, 17, 18, 19, 20, 21, 22] ?_
      iterate 9
       refine hK rfl rfl hHeld ?_
       simp only [Act.put, List.setIfInBounds_toArray, List.set_cons_zero, List.set_cons_succ]
      refine plOut ?_
      refine plIn [23, 24] ?_
      iterate 2
       refine hP (v := ?_) rfl rfl hHeld ?_ ?_
       rotate_left
       ·rintro wh ⟨z0, z1⟩
        go_simp
        (try with_reducible rfl)
       simp only [Act.put, List.setIfInBounds_toArray, List.set_cons_zero, List.set_cons_succ]
      refine plOut ?_
      refine wpAnyH_done (by kernel_rfl) ?_ _
      all_goals (
       have hbn : Below w.heap.size w w1 := hba.trans (hB1.mono hba.size)
       clear hb1 hB1 hn
       go_wp2
       go_roundw
       case rel => exact ⟨0 + 1, by omega, by go_num, HN, hbn⟩
       case measure => (simp [intOf]; try omega))
     ·obtain ⟨m, hm⟩ : ∃ m, k = m + 1 := ⟨k - 1, by omega⟩
      obtain ⟨z, hze⟩ : ∃ z, l[m]?.map (·.1) = some z := ⟨(l[m]'(by omega)).1, by rw [List.getElem?_eq_getElem (by omega)]; rfl⟩
      rw [hgz m z hm hze] at hstep hbad
      have az : wa.cell? ⟨b, o + m * 2, none⟩ = some (.string z) := hall _ _ (by
       have := (fldCells_at l m (by omega)).1
       rw [this]
       rw [List.getElem?_eq_getElem (by omega)] at hze
       simp only [Option.map_some, Option.some.injEq] at hze
       rw [hze])
      have hw1 : IntKind.i64.wrap ((k : Int) - 1) = (m : Int) := by rw [IntKind.wrap_i64]; omega
      have hI1 : (m : Int) < (l.length : Int) := by omega
      have hk1 : (0 : Int) < (k : Int) := by omega
      have hkz : decide (k = 0) = false := decide_eq_false (by omega)
      rw [hnm, decide_eq_true hy2, hkz] at hstep hbad
      cases hzx : Op.bytesLess z.toList x.toList
      ·have HZ := hbad hzx
       clear hstep hbad hall hgz hnm hy2 hze hkz hm
       go_wp2_with fail
       refine wp_region_held_drew (S := (fun w' => w'.cell? ⟨wr.heap.size, 0, none⟩ = some (.string x) ∧ w'.cell? ⟨wr.heap.size, 1, none⟩ = some (.string y) ∧ w'.cell? ⟨b, o + m * 2, none⟩ = some (.string z))) (by kernel_rfl) ⟨a0, a1, az⟩ (fun hHeld => ?_)
       refine plIn [0, 1] ?_
       iterate 2
        refine hP (v := ?_) rfl rfl hHeld ?_ ?_
        rotate_left
        ·rintro wh ⟨z0, z1, z2⟩
         go_simp
         (try with_reducible rfl)
        simp only [Act.put, List.setIfInBounds_toArray, List.set_cons_zero, List.set_cons_succ]
       refine plOut ?_
       refine held_call (i := 2) rfl (by kernel_rfl) (by rfl) (fun K hK => ?_)
       (go_simp; go_at_call 25; refine (hn _).mono ?_; rintro e w1 ⟨rfl, hb1⟩; have hB1 : Below wa.heap.size wa w1 := ((Below.refl _ _).drew).trans hb1)
       refine hK.out _ _ ⟨keep_cell a0 hB1 hwa, keep_cell a1 hB1 hwa, keep_cell az hB1 hwb⟩ (fun hHeld => ?_)
       clear hK K
       (try simp only [Act.put, List.setIfInBounds_toArray, List.set_cons_zero, List.set_cons_succ])
       refine plIn [3, 4, 5, 6, 7, 8, 9, 10, 11, 12, 13, 14, 15, 16, 17, 18, 19, 20, 21, 22, 23, 24] ?_
       iterate 22
        refine hP (v := ?_) rfl rfl hHeld ?_ ?_
        rotate_left
        ·rintro wh ⟨z0, z1, z2⟩
         go_simp
         (try with_reducible rfl)
        simp only [Act.put, List.setIfInBounds_toArray, List.set_cons_zero, List.set_cons_succ]
       refine plOut ?_
       refine wpAnyH_done (by kernel_rfl) ?_ _
       all_goals (
        have hbn : Below w.heap.size w w1 := hba.trans (hB1.mono hba.size)
        clear hb1 hB1 hn
        go_wp2
        go_ret
        exact ⟨by rw [HZ.out]; rfl, hbn⟩)
      ·have HN := hstep hzx
       clear hstep hbad hall hgz hnm hy2 hze hkz hm
       go_wp2_with fail
       refine wp_region_held_drew (S := (fun w' => w'.cell? ⟨wr.heap.size, 0, none⟩ = some (.string x) ∧ w'.cell? ⟨wr.heap.size, 1, none⟩ = some (.string y) ∧ w'.cell? ⟨b, o + m * 2, none⟩ = some (.string z))) (by kernel_rfl) ⟨a0, a1, az⟩ (fun hHeld => ?_)
       refine plIn [0, 1] ?_
       iterate 2
        refine hP (v := ?_) rfl rfl hHeld ?_ ?_
        rotate_left
        ·rintro wh ⟨z0, z1, z2⟩
         go_simp
         (try with_reducible rfl)
        simp only [Act.put, List.setIfInBounds_toArray, List.set_cons_zero, List.set_cons_succ]
       refine plOut ?_
       refine held_call (i := 2) rfl (by kernel_rfl) (by rfl) (fun K hK => ?_)
       (go_simp; go_at_call 25; refine (hn _).mono ?_; rintro e w1 ⟨rfl, hb1⟩; have hB1 : Below wa.heap.size wa w1 := ((Below.refl _ _).drew).trans hb1)
       refine hK.out _ _ ⟨keep_cell a0 hB1 hwa, keep_cell a1 hB1 hwa, keep_cell az hB1 hwb⟩ (fun hHeld => ?_)
       clear hK K
       (try simp only [Act.put, List.setIfInBounds_toArray, List.set_cons_zero, List.set_cons_succ])
       refine plIn [3, 4, 5, 6, 7, 8, 9, 10, 11, 12, 13, 14, 15, 16, 17, 18, 19, 20, 21, 22, 23, 24] ?_
       iterate 22
        refine hP (v := ?_) rfl rfl hHeld ?_ ?_
        rotate_left
        ·rintro wh ⟨z0, z1, z2⟩
         go_simp
         (try with_reducible rfl)
        simp only [Act.put, List.setIfInBounds_toArray, List.set_cons_zero, List.set_cons_succ]
       refine plOut ?_
       refine wpAnyH_done (by kernel_rfl) ?_ _
       all_goals (
        have hbn : Below w.heap.size w w1 := hba.trans (hB1.mono hba.size)
        clear hb1 hB1 hn
        go_wp2
        go_roundw
        case rel => exact ⟨k + 1, by omega, by go_num, HN, hbn⟩
        case measure => (simp [intOf]; try omega))
    ·have g1 : (200 : Int) < (y.size : Int) := by omega
     have HZ := hbad (by rw [hnm, decide_eq_false hy2]; rfl)
     clear hstep hbad hall hgz hnm hy2
     go_wp2_with fail
     refine wp_region_held_drew (S := (fun w' => w'.cell? ⟨wr.heap.size, 0, none⟩ = some (.string x) ∧ w'.cell? ⟨wr.heap.size, 1, none⟩ = some (.string y))) (by kernel_rfl) ⟨a0, a1⟩ (fun hHeld => ?_)
     refine plIn [0, 1] ?_
     iterate 2
      refine hP (v := ?_) rfl rfl hHeld ?_ ?_
      rotate_left
      ·rintro wh ⟨z0, z1⟩
       go_simp
       (try with_reducible rfl)
      simp only [Act.put, List.setIfInBounds_toArray, List.set_cons_zero, List.set_cons_succ]
     refine plOut ?_
     refine held_call (i := 2) rfl (by kernel_rfl) (by rfl) (fun K hK => ?_)
     (go_simp; go_at_call 25; refine (hn _).mono ?_; rintro e w1 ⟨rfl, hb1⟩; have hB1 : Below wa.heap.size wa w1 := ((Below.refl _ _).drew).trans hb1)
     refine hK.out _ _ ⟨keep_cell a0 hB1 hwa, keep_cell a1 hB1 hwa⟩ (fun hHeld => ?_)
     clear hK K
     (try simp only [Act.put, List.setIfInBounds_toArray, List.set_cons_zero, List.set_cons_succ])
     refine plIn [3, 4, 5, 6, 7, 8, 9, 10] ?_
     iterate 8
      refine hP (v := ?_) rfl rfl hHeld ?_ ?_
      rotate_left
      ·rintro wh ⟨z0, z1⟩
       go_simp
       (try with_reducible rfl)
      simp only [Act.put, List.setIfInBounds_toArray, List.set_cons_zero, List.set_cons_succ]
     refine plOut ?_
     refine plIn [11, 12, 13, 14, 15, 16, 17, 18, 19, 20, 21, 22, 23] ?_
     iterate 13
      refine hK rfl rfl hHeld ?_
      simp only [Act.put, List.setIfInBounds_toArray, List.set_cons_zero, List.set_cons_succ]
     refine plOut ?_
     refine hT (i := 24) (v := ?_) rfl rfl hHeld ?_ ?_
     rotate_left
     ·rintro wh ⟨z0, z1⟩
      go_simp
      (try with_reducible rfl)
     simp only [Act.put, List.setIfInBounds_toArray, List.set_cons_zero, List.set_cons_succ]
     refine wpAnyH_done (by kernel_rfl) ?_ _
     all_goals (
      have hbn : Below w.heap.size w w1 := hba.trans (hB1.mono hba.size)
      clear hb1 hB1 hn
      go_wp2
      go_ret
      exact ⟨by rw [HZ.out]; rfl, hbn⟩)
  ·obtain rfl : k = l.length := by omega
   have HZ : Hid (rightF l = decide (l.length ≤ 8)) := rightF_good HT.out
   clear HT
   by_cases h8 : l.length ≤ 8
   ·rw [decide_eq_true h8] at HZ
    go_wp2
    go_ret
    refine ⟨?_, hbr⟩
    rw [HZ.out]; (first | rfl | (simp; done) | (simp; omega))
   ·rw [decide_eq_false h8] at HZ
    go_wp2
    go_ret
    refine ⟨?_, hbr⟩
    rw [HZ.out]; (first | rfl | (simp; done) | (simp; omega))
end Go.Proofs.YtgbapkechngnmaaGreat
/- The pattern's builder, said plainly: states, the reading of a class, of an atom, of a row. No program in sight. -/
namespace Go.Proofs.YtgbapkechngnmaaGreat
open Go.RowKit
structure St where
  set : Option (Nat → Bool)
  next : Nat
  free : List Nat
structure Bs where
  pos : Nat
  err : Int
  sts : List St
def byteM (s : ByteArray) (k : Nat) : Nat := if h : k < s.size then (s[k]'h).toNat else 0
theorem byteM_lt (s : ByteArray) (k : Nat) : byteM s k < 256 := by
  unfold byteM; split
  · exact UInt8.toNat_lt _
  · omega
def peekM (s : ByteArray) (b : Bs) : Option Nat := if b.err = 0 ∧ b.pos < s.size then some (byteM s b.pos) else none
def failM (b : Bs) (e : Int) : Bs := if b.err = 0 then { b with err := e } else b
theorem failM_pos (b : Bs) (e : Int) : (failM b e).pos = b.pos := by unfold failM; split <;> rfl
theorem failM_sts (b : Bs) (e : Int) : (failM b e).sts = b.sts := by unfold failM; split <;> rfl
def stepM (b : Bs) : Bs := { b with pos := b.pos + 1 }
def nodeM (b : Bs) : Bs := { b with sts := b.sts ++ [⟨none, 0, []⟩] }
def addF : List St → Nat → Nat → List St
  | [], _, _ => []
  | x :: l, 0, t => { x with free := x.free ++ [t] } :: l
  | x :: l, k + 1, t => x :: addF l k t
def freeM (b : Bs) (f t : Nat) : Bs := { b with sts := addF b.sts f t }
def oneM (b : Bs) (S : Nat → Bool) : Bs × (Nat × Nat) := ({ b with sts := b.sts ++ [⟨some S, b.sts.length + 1, []⟩, ⟨none, 0, []⟩] }, (b.sts.length, b.sts.length + 1))
def signM (s : ByteArray) (b : Bs) : Bs × Nat :=
  match peekM s b with
  | none => (failM (stepM b) 2, 0)
  | some c => if c = 92 then
      match peekM s (stepM b) with
      | none => (failM (stepM (stepM b)) 2, 0)
      | some d => (stepM (stepM b), d)
    else (stepM b, c)
def rangeB (s : ByteArray) (b : Bs) : Bool := decide (peekM s b = some 45) && (decide (b.pos + 1 < s.size) && !decide (byteM s (b.pos + 1) = 93))
def rangeM (s : ByteArray) (b : Bs) (lo : Nat) : Bs × Nat := if rangeB s b = true then signM s (stepM b) else (b, lo)
def addS (S : Nat → Bool) (lo hi : Nat) : Nat → Bool := fun c => S c || (decide (lo ≤ c) && decide (c ≤ hi))
def noS : Nat → Bool := fun _ => false
def turnS (S : Nat → Bool) : Nat → Bool := fun c => !S c
def oneS (c : Nat) : Nat → Bool := addS noS c c
def loopM (s : ByteArray) : Nat → Bool → Bs → (Nat → Bool) → Bs × (Nat → Bool)
  | 0, _, b, S => (b, S)
  | n + 1, first, b, S =>
    match peekM s b with
    | none => (failM b 2, S)
    | some d => if d = 93 then (if first then (failM b 2, S) else (stepM b, S)) else
      let x := signM s b
      let y := rangeM s x.1 x.2
      loopM s n false (if y.2 < x.2 then failM y.1 2 else y.1) (addS S x.2 y.2)
def classM (s : ByteArray) (b : Bs) : Bs × (Nat → Bool) :=
  if peekM s b = some 94 then
    let r := loopM s (s.size + 1) true (stepM b) noS
    (r.1, turnS r.2)
  else loopM s (s.size + 1) true b noS
def postB (c : Nat) : Bool := decide (c = 42) || decide (c = 43) || decide (c = 63)
def oddB (c : Nat) : Bool := postB c || decide (c = 124) || decide (c = 40) || decide (c = 41) || decide (c = 91) || decide (c = 93) || decide (c = 92) || decide (c = 46)
def timesM (s : ByteArray) (b : Bs) (x : Nat × Nat) : Bs × (Nat × Nat) :=
  match peekM s b with
  | none => (b, x)
  | some c => if postB c = true then
      let f := b.sts.length
      let t := b.sts.length + 1
      let b1 := freeM (freeM (nodeM (nodeM (stepM b))) f x.1) x.2 t
      let b2 := if c = 43 then b1 else freeM b1 f t
      let b3 := if c = 63 then b2 else freeM b2 x.2 x.1
      (b3, (f, t))
    else (b, x)
def closeM (s : ByteArray) (b : Bs) : Bs := stepM (if peekM s b = some 41 then b else failM b 2)
theorem closeM_pos (s : ByteArray) (b : Bs) : (closeM s b).pos = b.pos + 1 := by
  unfold closeM stepM; dsimp only; split <;> simp [failM_pos]
theorem closeM_sts (s : ByteArray) (b : Bs) : (closeM s b).sts = b.sts := by
  unfold closeM stepM; dsimp only; split <;> simp [failM_sts]
inductive Md where
  | either
  | alts (p : Nat × Nat)
  | row
  | parts (p : Nat × Nat)
  | atom
def runM (s : ByteArray) : Nat → Md → Nat → Bs → Bs × (Nat × Nat)
  | 0, _, _, b => (b, (0, 0))
  | n + 1, .either, d, b => runM s n (.alts (b.sts.length, b.sts.length + 1)) d (nodeM (nodeM b))
  | n + 1, .alts p, d, b =>
    let r := runM s n .row d b
    let b2 := freeM (freeM r.1 p.1 r.2.1) r.2.2 p.2
    if peekM s b2 = some 124 then runM s n (.alts p) d (stepM b2) else (b2, p)
  | n + 1, .row, d, b => runM s n (.parts (b.sts.length, b.sts.length)) d (nodeM b)
  | n + 1, .parts p, d, b =>
    match peekM s b with
    | none => (b, p)
    | some c => if c = 124 ∨ c = 41 then (b, p) else
      let r := runM s n .atom d b
      let t := timesM s r.1 r.2
      runM s n (.parts (p.1, t.2.2)) d (freeM t.1 p.2 t.2.1)
  | n + 1, .atom, d, b =>
    let c := byteM s b.pos
    let b1 := stepM b
    if c = 40 then
      (if d = 8 then oneM (failM b1 3) noS else
        let r := runM s n .either (d + 1) b1
        (closeM s r.1, r.2))
    else if c = 91 then oneM (classM s b1).1 (classM s b1).2
    else if c = 46 then oneM b1 (turnS noS)
    else if c = 92 then
      (match peekM s b1 with
       | none => oneM (stepM (failM b1 2)) (oneS 0)
       | some e => oneM (stepM b1) (oneS e))
    else if oddB c = true then oneM (failM b1 2) noS
    else oneM b1 (oneS c)
/-! lengths, places -/
theorem addF_len (l : List St) (f t : Nat) : (addF l f t).length = l.length := by
  induction l generalizing f with
  | nil => rfl
  | cons x l ih => cases f <;> simp [addF, ih]
def tot (l : List St) : Nat := (l.map fun x => 1 + x.free.length).sum
theorem len_tot (l : List St) : l.length ≤ tot l := by
  induction l with
  | nil => simp
  | cons x l ih => simp [tot] at ih ⊢; omega
theorem tot_addF (l : List St) (f t : Nat) : tot (addF l f t) ≤ tot l + 1 := by
  induction l generalizing f with
  | nil => simp [addF, tot]
  | cons x l ih =>
    cases f with
    | zero => simp [addF, tot]; omega
    | succ f => have := ih f; simp [addF, tot] at this ⊢; omega
theorem free_tot (l : List St) (x : St) (h : x ∈ l) : x.free.length ≤ tot l := by
  induction l with
  | nil => cases h
  | cons y l ih =>
    rcases List.mem_cons.1 h with rfl | h
    · simp [tot]; omega
    · have := ih h; simp [tot] at this ⊢; omega
theorem peekM_some {s : ByteArray} {b : Bs} {c : Nat} (h : peekM s b = some c) : b.err = 0 ∧ b.pos < s.size ∧ c = byteM s b.pos := by
  unfold peekM at h
  split at h
  · rename_i h'; exact ⟨h'.1, h'.2, (Option.some.inj h).symm⟩
  · cases h
theorem failM_err {b : Bs} {e : Int} (he : e ≠ 0) : (failM b e).err ≠ 0 := by
  unfold failM; split
  · exact he
  · rename_i h; exact h
theorem signM_len (s : ByteArray) (b : Bs) : (signM s b).1.sts = b.sts := by
  unfold signM
  split
  · rw [failM_sts]; rfl
  · split
    · split
      · rw [failM_sts]; rfl
      · rfl
    · rfl
theorem signM_pos (s : ByteArray) (b : Bs) (h : b.pos < s.size) : b.pos < (signM s b).1.pos ∧ (signM s b).1.pos ≤ s.size + 1 := by
  unfold signM
  split
  · rw [failM_pos]; simp [stepM]; omega
  · split
    · split
      · rw [failM_pos]; simp [stepM]; omega
      · simp [stepM]; omega
    · simp [stepM]; omega
theorem signM_lt (s : ByteArray) (b : Bs) : (signM s b).2 < 256 := by
  unfold signM
  split
  · simp
  · rename_i c hc
    split
    · split
      · simp
      · rename_i d hd
        rw [(peekM_some hd).2.2]; exact byteM_lt _ _
    · rw [(peekM_some hc).2.2]; exact byteM_lt _ _
theorem rangeM_len (s : ByteArray) (b : Bs) (lo : Nat) : (rangeM s b lo).1.sts = b.sts := by
  unfold rangeM; split
  · rw [signM_len]; rfl
  · rfl
theorem rangeB_pos {s : ByteArray} {b : Bs} (h : rangeB s b = true) : b.pos + 1 < s.size := by
  unfold rangeB at h
  simp only [Bool.and_eq_true, decide_eq_true_eq] at h
  exact h.2.1
theorem rangeM_pos (s : ByteArray) (b : Bs) (lo : Nat) : b.pos ≤ (rangeM s b lo).1.pos ∧ ((rangeM s b lo).1.pos ≤ s.size + 1 ∨ (rangeM s b lo).1.pos = b.pos) := by
  unfold rangeM; split
  · rename_i h
    have := signM_pos s (stepM b) (rangeB_pos h)
    simp only [stepM] at this ⊢; omega
  · simp
theorem loopM_len (s : ByteArray) (n : Nat) : ∀ (first : Bool) (b : Bs) (S : Nat → Bool), (loopM s n first b S).1.sts = b.sts := by
  induction n with
  | zero => intros; rfl
  | succ n ih =>
    intro first b S
    rw [loopM]
    split
    · rw [failM_sts]
    · split
      · split
        · rw [failM_sts]
        · rfl
      · rw [ih]
        split
        · rw [failM_sts, rangeM_len, signM_len]
        · rw [rangeM_len, signM_len]
theorem loopM_pos (s : ByteArray) (n : Nat) : ∀ (first : Bool) (b : Bs) (S : Nat → Bool), b.pos ≤ (loopM s n first b S).1.pos ∧ (b.pos ≤ s.size + 1 → (loopM s n first b S).1.pos ≤ s.size + 1) := by
  induction n with
  | zero => intros; exact ⟨Nat.le_refl _, fun h => h⟩
  | succ n ih =>
    intro first b S
    rw [loopM]
    split
    · rw [failM_pos]; exact ⟨Nat.le_refl _, fun h => h⟩
    · rename_i d hd
      have hp := (peekM_some hd).2.1
      split
      · split
        · rw [failM_pos]; exact ⟨Nat.le_refl _, fun h => h⟩
        · simp [stepM]; omega
      · have h1 := signM_pos s b hp
        have h2 := rangeM_pos s (signM s b).1 (signM s b).2
        have h3 := ih false (if (rangeM s (signM s b).1 (signM s b).2).2 < (signM s b).2 then failM (rangeM s (signM s b).1 (signM s b).2).1 2 else (rangeM s (signM s b).1 (signM s b).2).1) (addS S (signM s b).2 (rangeM s (signM s b).1 (signM s b).2).2)
        have h4 : (if (rangeM s (signM s b).1 (signM s b).2).2 < (signM s b).2 then failM (rangeM s (signM s b).1 (signM s b).2).1 2 else (rangeM s (signM s b).1 (signM s b).2).1).pos = (rangeM s (signM s b).1 (signM s b).2).1.pos := by split <;> simp [failM_pos]
        rw [h4] at h3
        dsimp only
        exact ⟨by omega, fun h => h3.2 (by omega)⟩
theorem classM_len (s : ByteArray) (b : Bs) : (classM s b).1.sts = b.sts := by
  unfold classM; split
  · exact (loopM_len _ _ _ _ _).trans rfl
  · exact loopM_len _ _ _ _ _
theorem classM_pos (s : ByteArray) (b : Bs) : b.pos ≤ (classM s b).1.pos ∧ (b.pos ≤ s.size → (classM s b).1.pos ≤ s.size + 1) := by
  unfold classM; split
  · have := loopM_pos s (s.size + 1) true (stepM b) noS
    simp only [stepM] at this ⊢
    exact ⟨by omega, fun h => this.2 (by omega)⟩
  · have := loopM_pos s (s.size + 1) true b noS
    exact ⟨this.1, fun h => this.2 (by omega)⟩
structure Gd (b b' : Bs) (c : Nat) : Prop where
  pos : b.pos ≤ b'.pos
  len : b.sts.length ≤ b'.sts.length
  tot : tot b'.sts ≤ tot b.sts + c + 6 * (b'.pos - b.pos)
theorem Gd.trans {a b c : Bs} {m n : Nat} (h : Gd a b m) (h' : Gd b c n) : Gd a c (m + n) := by
  obtain ⟨h1, h2, h3⟩ := h
  obtain ⟨h4, h5, h6⟩ := h'
  exact ⟨by omega, by omega, by omega⟩
theorem gd_refl (b : Bs) : Gd b b 0 := ⟨Nat.le_refl _, Nat.le_refl _, by omega⟩
theorem gd_node (b : Bs) : Gd b (nodeM b) 1 := ⟨Nat.le_refl _, by simp [nodeM], by simp [nodeM, tot]⟩
theorem gd_free (b : Bs) (f t : Nat) : Gd b (freeM b f t) 1 := ⟨Nat.le_refl _, by simp [freeM, addF_len], by have := tot_addF b.sts f t; simp only [freeM]; omega⟩
theorem gd_fail (b : Bs) (e : Int) : Gd b (failM b e) 0 := ⟨by rw [failM_pos]; exact Nat.le_refl _, by rw [failM_sts]; exact Nat.le_refl _, by rw [failM_sts, failM_pos]; omega⟩
theorem gd_step (b : Bs) (m : Nat) (hm : m ≤ 6) {c : Bs} (h : Gd (stepM b) c m) : Gd b c 0 := by
  obtain ⟨h1, h2, h3⟩ := h
  simp only [stepM] at h1 h2 h3
  exact ⟨by omega, h2, by omega⟩
theorem gd_step' {a b : Bs} {m k : Nat} (h : Gd a b m) (hk : m ≤ k + 6) : Gd a (stepM b) k := by
  obtain ⟨h1, h2, h3⟩ := h
  exact ⟨by simp [stepM]; omega, by simpa [stepM] using h2, by simp only [stepM]; omega⟩
theorem gd_one (b : Bs) (S : Nat → Bool) : Gd b (oneM b S).1 2 := ⟨Nat.le_refl _, by simp [oneM], by simp [oneM, tot]⟩
theorem Gd.weak {a b : Bs} {m k : Nat} (h : Gd a b m) (hk : m ≤ k) : Gd a b k := ⟨h.pos, h.len, by have := h.tot; omega⟩
theorem gd_times (s : ByteArray) (b : Bs) (x : Nat × Nat) : Gd b (timesM s b x).1 0 := by
  unfold timesM
  split
  · exact gd_refl b
  · split
    · dsimp only
      refine gd_step b 6 (Nat.le_refl _) ?_
      have h1 := (((gd_node (stepM b)).trans (gd_node _)).trans (gd_free _ b.sts.length x.1)).trans (gd_free _ x.2 (b.sts.length + 1))
      split
      · split
        · exact h1.weak (by omega)
        · exact (h1.trans (gd_free _ _ _)).weak (by omega)
      · split
        · exact (h1.trans (gd_free _ _ _)).weak (by omega)
        · exact ((h1.trans (gd_free _ _ _)).trans (gd_free _ _ _)).weak (by omega)
    · exact gd_refl b
theorem times_part (s : ByteArray) (b : Bs) (x : Nat × Nat) (hx : x.1 < b.sts.length ∧ x.2 < b.sts.length) : (timesM s b x).2.1 < (timesM s b x).1.sts.length ∧ (timesM s b x).2.2 < (timesM s b x).1.sts.length := by
  unfold timesM
  split
  · exact hx
  · split
    · dsimp only
      have e : ∀ b f t, (freeM b f t).sts.length = b.sts.length := fun b f t => by simp [freeM, addF_len]
      split <;> split <;> simp [e, nodeM, stepM]
    · exact hx
def costM : Md → Nat
  | .either => 5
  | .alts _ => 3
  | .row => 1
  | .parts _ => 0
  | .atom => 0
def partOk : Md → Bs → Prop
  | .alts p, b => p.1 < b.sts.length ∧ p.2 < b.sts.length
  | .parts p, b => p.1 < b.sts.length ∧ p.2 < b.sts.length
  | .atom, _ => True
  | _, _ => True
def fuelM (s : ByteArray) (b : Bs) : Md → Nat
  | .either => 8 * (s.size - b.pos) + 5
  | .alts _ => 8 * (s.size - b.pos) + 4
  | .row => 8 * (s.size - b.pos) + 3
  | .parts _ => 8 * (s.size - b.pos) + 2
  | .atom => 8 * (s.size - b.pos) + 1
structure RunOk (s : ByteArray) (md : Md) (d : Nat) (b : Bs) (r : Bs × (Nat × Nat)) : Prop where
  gd : Gd b r.1 (costM md)
  p1 : r.2.1 < r.1.sts.length
  p2 : r.2.2 < r.1.sts.length
  top : r.1.pos ≤ s.size + 12 - d
  more : md = .atom → b.pos < r.1.pos ∧ tot r.1.sts + 1 ≤ tot b.sts + 6 * (r.1.pos - b.pos)
theorem runM_ok (s : ByteArray) (n : Nat) : ∀ (md : Md) (d : Nat) (b : Bs), d ≤ 8 → b.pos ≤ s.size + 12 - d → (md = .atom → b.pos < s.size) → partOk md b → fuelM s b md ≤ n → RunOk s md d b (runM s n md d b) := by
  induction n with
  | zero => intro md d b _ _ _ _ hn; cases md <;> simp [fuelM] at hn
  | succ n ih =>
    intro md d b hd hp ha hk hn
    cases md with
    | either =>
      simp only [fuelM] at hn
      have h := ih (.alts (b.sts.length, b.sts.length + 1)) d (nodeM (nodeM b)) hd hp (fun h => by cases h) ⟨by simp [nodeM], by simp [nodeM]⟩ (by simp only [fuelM, nodeM]; omega)
      obtain ⟨h1, h2, h3, h4, _⟩ := h
      rw [runM]
      exact ⟨(((gd_node b).trans (gd_node _)).trans h1).weak (by simp [costM]), h2, h3, h4, fun h => by cases h⟩
    | alts p =>
      simp only [fuelM] at hn
      obtain ⟨hp1, hp2⟩ := hk
      have h := ih .row d b hd hp (fun h => by cases h) trivial (by simp only [fuelM]; omega)
      obtain ⟨h1, h2, h3, h4, _⟩ := h
      have g := (h1.trans (gd_free _ p.1 (runM s n .row d b).2.1)).trans (gd_free _ (runM s n .row d b).2.2 p.2)
      have hl : (freeM (freeM (runM s n .row d b).1 p.1 (runM s n .row d b).2.1) (runM s n .row d b).2.2 p.2).sts.length = (runM s n .row d b).1.sts.length := by simp [freeM, addF_len]
      have hg := g.len
      rw [runM]
      split
      · rename_i hpk
        obtain ⟨q1, q2, _⟩ := peekM_some hpk
        have hpp : (freeM (freeM (runM s n .row d b).1 p.1 (runM s n .row d b).2.1) (runM s n .row d b).2.2 p.2).pos = (runM s n .row d b).1.pos := rfl
        have hpos := h1.pos
        have h := ih (.alts p) d (stepM (freeM (freeM (runM s n .row d b).1 p.1 (runM s n .row d b).2.1) (runM s n .row d b).2.2 p.2)) hd (by simp only [stepM]; omega) (fun h => by cases h) ⟨by simp only [stepM]; omega, by simp only [stepM]; omega⟩ (by simp only [fuelM, stepM]; omega)
        obtain ⟨k1, k2, k3, k4, _⟩ := h
        refine ⟨?_, k2, k3, k4, fun h => by cases h⟩
        have g2 := gd_step' g (k := 0) (by simp [costM])
        exact (g2.trans k1).weak (by simp [costM])
      · exact ⟨g.weak (by simp [costM]), by have := h1.len; dsimp only; omega, by have := h1.len; dsimp only; omega, h4, fun h => by cases h⟩
    | row =>
      simp only [fuelM] at hn
      have h := ih (.parts (b.sts.length, b.sts.length)) d (nodeM b) hd hp (fun h => by cases h) ⟨by simp [nodeM], by simp [nodeM]⟩ (by simp only [fuelM, nodeM]; omega)
      obtain ⟨h1, h2, h3, h4, _⟩ := h
      rw [runM]
      exact ⟨((gd_node b).trans h1).weak (by simp [costM]), h2, h3, h4, fun h => by cases h⟩
    | parts p =>
      simp only [fuelM] at hn
      obtain ⟨hp1, hp2⟩ := hk
      rw [runM]
      split
      · exact ⟨(gd_refl b).weak (by simp [costM]), hp1, hp2, hp, fun h => by cases h⟩
      · rename_i c hc
        split
        · exact ⟨(gd_refl b).weak (by simp [costM]), hp1, hp2, hp, fun h => by cases h⟩
        · dsimp only
          have hps := (peekM_some hc).2.1
          have h := ih .atom d b hd hp (fun _ => hps) trivial (by simp only [fuelM]; omega)
          obtain ⟨h1, h2, h3, h4, h5⟩ := h
          obtain ⟨h6, h7⟩ := h5 rfl
          have gt := gd_times s (runM s n .atom d b).1 (runM s n .atom d b).2
          have pt := times_part s (runM s n .atom d b).1 (runM s n .atom d b).2 ⟨h2, h3⟩
          have tp : (timesM s (runM s n .atom d b).1 (runM s n .atom d b).2).1.pos ≤ s.size + 12 - d := by
            unfold timesM
            split
            · exact h4
            · rename_i c' hc'
              have := (peekM_some hc').2.1
              split
              · have e : ∀ b f t, (freeM b f t).pos = b.pos := fun _ _ _ => rfl
                dsimp only
                split <;> split <;> simp only [e, nodeM, stepM] <;> omega
              · exact h4
          generalize hr : runM s n .atom d b = r at *
          generalize ht : timesM s r.1 r.2 = t at *
          have hfl : (freeM t.1 p.2 t.2.1).sts.length = t.1.sts.length := by simp [freeM, addF_len]
          have hgl := gt.len
          have hgp := gt.pos
          have h1l := h1.len
          have h := ih (.parts (p.1, t.2.2)) d (freeM t.1 p.2 t.2.1) hd tp (fun h => by cases h) ⟨by rw [hfl]; show p.1 < _; omega, by rw [hfl]; exact pt.2⟩ (by simp only [fuelM, freeM]; omega)
          obtain ⟨k1, k2, k3, k4, _⟩ := h
          refine ⟨?_, k2, k3, k4, fun h => by cases h⟩
          have g1 : Gd r.1 (freeM t.1 p.2 t.2.1) 1 := (gt.trans (gd_free _ _ _)).weak (by omega)
          obtain ⟨a1, a2, a3⟩ := g1.trans k1
          exact ⟨by omega, by omega, by simp [costM] at a3 ⊢; omega⟩
    | atom =>
      simp only [fuelM] at hn
      have hps := ha rfl
      rw [runM]
      have fin : ∀ (b' : Bs) (S : Nat → Bool), Gd (stepM b) b' 0 → b'.pos ≤ s.size + 2 → RunOk s .atom d b (oneM b' S) := by
        intro b' S hg hp'
        obtain ⟨g1, g2, g3⟩ := hg.trans (gd_one b' S)
        simp only [stepM] at g1 g2 g3
        refine ⟨⟨by omega, g2, by simp [costM]; omega⟩, by simp [oneM], by simp [oneM], ?_, fun _ => ⟨by omega, by omega⟩⟩
        show b'.pos ≤ _
        omega
      have hsp : (stepM b).pos = b.pos + 1 := rfl
      split
      · split
        · exact fin _ _ (gd_fail _ _) (by rw [failM_pos, hsp]; omega)
        · rename_i hd8
          have h := ih .either (d + 1) (stepM b) (by omega) (by rw [hsp]; omega) (fun h => by cases h) trivial (by simp only [fuelM, stepM]; omega)
          obtain ⟨h1, h2, h3, h4, _⟩ := h
          generalize runM s n .either (d + 1) (stepM b) = r at *
          obtain ⟨g1, g2, g3⟩ := h1
          simp only [stepM, costM] at g1 g2 g3
          have hcp := closeM_pos s r.1
          have hcs := closeM_sts s r.1
          exact ⟨⟨by dsimp only; omega, by dsimp only; rw [hcs]; exact g2, by simp only [costM]; rw [hcs]; omega⟩, by dsimp only; rw [hcs]; exact h2, by dsimp only; rw [hcs]; exact h3, by dsimp only; omega, fun _ => ⟨by dsimp only; omega, by dsimp only; rw [hcs]; omega⟩⟩
      · split
        · have hc := classM_pos s (stepM b)
          refine fin _ _ ⟨hc.1, by rw [classM_len]; exact Nat.le_refl _, by rw [classM_len]; omega⟩ ?_
          have := hc.2 (by rw [hsp]; omega)
          omega
        · split
          · exact fin _ _ (gd_refl _) (by rw [hsp]; omega)
          · split
            · split
              · exact fin _ _ (gd_step' (gd_fail _ _) (by omega)) (by simp only [stepM, failM_pos]; omega)
              · exact fin _ _ (gd_step' (gd_refl _) (by omega)) (by simp only [stepM]; omega)
            · split
              · exact fin _ _ (gd_fail _ _) (by rw [failM_pos, hsp]; omega)
              · exact fin _ _ (gd_refl _) (by rw [hsp]; omega)
end Go.Proofs.YtgbapkechngnmaaGreat
/- Boxes of six and of seven cells. No program in sight. -/
namespace Go.Proofs.YtgbapkechngnmaaGreat
open Go.RowKit
def C6 (p : Nat) (a b c d e f : Value) (W : World) : Prop := W.cell? ⟨p, 0, none⟩ = some a ∧ W.cell? ⟨p, 1, none⟩ = some b ∧ W.cell? ⟨p, 2, none⟩ = some c ∧ W.cell? ⟨p, 3, none⟩ = some d ∧ W.cell? ⟨p, 4, none⟩ = some e ∧ W.cell? ⟨p, 5, none⟩ = some f
theorem C6.later {p : Nat} {a b c d e f : Value} {W W' : World} (h : C6 p a b c d e f W) (hb : Below W.heap.size W W') (hp : p < W.heap.size) : C6 p a b c d e f W' := by
 obtain ⟨h0, h1, h2, h3, h4, h5⟩ := h
 exact ⟨keep_cell h0 hb hp, keep_cell h1 hb hp, keep_cell h2 hb hp, keep_cell h3 hb hp, keep_cell h4 hb hp, keep_cell h5 hb hp⟩
def C7 (p : Nat) (a b c d e f g : Value) (W : World) : Prop := W.cell? ⟨p, 0, none⟩ = some a ∧ W.cell? ⟨p, 1, none⟩ = some b ∧ W.cell? ⟨p, 2, none⟩ = some c ∧ W.cell? ⟨p, 3, none⟩ = some d ∧ W.cell? ⟨p, 4, none⟩ = some e ∧ W.cell? ⟨p, 5, none⟩ = some f ∧ W.cell? ⟨p, 6, none⟩ = some g
theorem C7.later {p : Nat} {a b c d e f g : Value} {W W' : World} (h : C7 p a b c d e f g W) (hb : Below W.heap.size W W') (hp : p < W.heap.size) : C7 p a b c d e f g W' := by
 obtain ⟨h0, h1, h2, h3, h4, h5, h6⟩ := h
 exact ⟨keep_cell h0 hb hp, keep_cell h1 hb hp, keep_cell h2 hb hp, keep_cell h3 hb hp, keep_cell h4 hb hp, keep_cell h5 hb hp, keep_cell h6 hb hp⟩
end Go.Proofs.YtgbapkechngnmaaGreat
/- The pattern's builder in memory: which blocks it owns, what lies there, what a step turns. -/
namespace Go.Proofs.YtgbapkechngnmaaGreat
open Go.RowKit
/-! what may change: blocks of own, and new ones -/
structure Keep (own : Nat → Prop) (w w' : World) : Prop where
 os : w'.os = w.os
 tape : w'.tape = w.tape
 output : w'.output = w.output
 size : w.heap.size ≤ w'.heap.size
 block : ∀ k, k < w.heap.size → ¬ own k → w'.heap[k]? = w.heap[k]?
theorem Keep.refl (own : Nat → Prop) (w : World) : Keep own w w := ⟨rfl, rfl, rfl, Nat.le_refl _, fun _ _ _ => rfl⟩
theorem Keep.of_below {own : Nat → Prop} {w w' : World} (h : Below w.heap.size w w') : Keep own w w' := ⟨h.os, h.tape, h.output, h.size, fun k hk _ => h.block k hk⟩
theorem Keep.trans {own own' : Nat → Prop} {a b c : World} (h : Keep own a b) (h' : Keep own' b c) (hs : ∀ k, own' k → own k ∨ a.heap.size ≤ k) : Keep own a c :=
 ⟨h'.os.trans h.os, h'.tape.trans h.tape, h'.output.trans h.output, Nat.le_trans h.size h'.size, fun k hk hn =>
  (h'.block k (Nat.lt_of_lt_of_le hk h.size) (fun h0 => by rcases hs k h0 with h1 | h1; (· exact hn h1); (· omega))).trans (h.block k hk hn)⟩
theorem Keep.mono {own own' : Nat → Prop} {a b : World} (h : Keep own a b) (hs : ∀ k, own k → own' k) : Keep own' a b := ⟨h.os, h.tape, h.output, h.size, fun k hk hn => h.block k hk (fun h0 => hn (hs k h0))⟩
theorem Keep.below {own : Nat → Prop} {a b : World} {B : Nat} (h : Keep own a b) (hB : B ≤ a.heap.size) (hs : ∀ k, own k → B ≤ k) : Below B a b := ⟨h.os, h.tape, h.output, h.size, fun k hk => h.block k (by omega) (fun h0 => by have := hs k h0; omega)⟩
theorem Keep.setCell {own : Nat → Prop} {a b : World} (h : Keep own a b) {p : Addr} (hp : own p.block) (v : Value) : Keep own a (b.setCell p v) :=
 ⟨h.os, h.tape, h.output, by simpa using h.size, fun k hk hn => (heap_setCell_other b p k v (fun e => hn (e ▸ hp))).trans (h.block k hk hn)⟩
theorem Keep.grown {own : Nat → Prop} {a b c : World} (h : Keep own a b) {row : Option Nat} (hg : b.grownBy c row) (hr : ∀ k, row = some k → own k ∨ a.heap.size ≤ k) : Keep own a c :=
 ⟨hg.os.trans h.os, hg.tape.trans h.tape, hg.output.trans h.output, Nat.le_trans h.size hg.size, fun k hk hn =>
  (hg.block k (Nat.lt_of_lt_of_le hk h.size) (fun e => by rcases hr k e.symm with h1 | h1; (· exact hn h1); (· omega))).trans (h.block k hk hn)⟩
theorem Keep.drew {own : Nat → Prop} {a b : World} (h : Keep own a b) : Keep own a b.drew := ⟨h.os, h.tape, h.output, h.size, h.block⟩
theorem Keep.alloc {own : Nat → Prop} {a b : World} (h : Keep own a b) (o : Obj) : Keep own a (b.alloc o) :=
 ⟨h.os, h.tape, h.output, by rw [World.size_alloc]; have := h.size; omega, fun k hk hn => (Below.heap_alloc b o k (Nat.lt_of_lt_of_le hk h.size)).trans (h.block k hk hn)⟩
def Stp (own : Nat → Prop) (w : World) (own' : Nat → Prop) (w' : World) : Prop := Keep own w w' ∧ ∀ k, own' k → own k ∨ w.heap.size ≤ k
theorem Stp.refl (own : Nat → Prop) (w : World) : Stp own w own w := ⟨Keep.refl own w, fun _ h => .inl h⟩
theorem Stp.trans {o1 o2 o3 : Nat → Prop} {a b c : World} (h : Stp o1 a o2 b) (h' : Stp o2 b o3 c) : Stp o1 a o3 c :=
 ⟨h.1.trans h'.1 h.2, fun k hk => by
  rcases h'.2 k hk with h0 | h0
  ·exact h.2 k h0
  ·exact .inr (Nat.le_trans h.1.size h0)⟩
theorem Stp.of_below {own : Nat → Prop} {w w' : World} (h : Below w.heap.size w w') : Stp own w own w' := ⟨Keep.of_below h, fun _ h => .inl h⟩
theorem Stp.setCell {own : Nat → Prop} {w : World} {p : Addr} (hp : own p.block) (v : Value) : Stp own w own (w.setCell p v) := ⟨(Keep.refl own w).setCell hp v, fun _ h => .inl h⟩
theorem Stp.blk {own own' : Nat → Prop} {w w' : World} (h : Stp own w own' w') {k : Nat} {o : Obj} (hk : w.heap[k]? = some o) (hn : ¬ own k) : w'.heap[k]? = some o :=
 (h.1.block k (Array.getElem?_eq_some_iff.1 hk).1 hn).trans hk
theorem Stp.not {own own' : Nat → Prop} {w w' : World} (h : Stp own w own' w') {k : Nat} (hk : k < w.heap.size) (hn : ¬ own k) : ¬ own' k := fun h0 => by
 rcases h.2 k h0 with h1 | h1
 ·exact hn h1
 ·omega
/-! a set of bytes in memory: four words -/
def WordsOf (f : Nat → Bool) (ws : List Nat) : Prop := ws.length = 4 ∧ (∀ x ∈ ws, x < 18446744073709551616) ∧ ∀ c, c < 256 → (ws.getD (c / 64) 0).testBit (c % 64) = f c
def SetAt (w : World) (p : Nat) (f : Nat → Bool) : Prop := ∃ ws, WordsOf f ws ∧ w.heap[p]? = some (.cells (ws.map fun (n : Nat) => Value.int .u64 n).toArray 205 (0, 0))
theorem SetAt.blk {w w' : World} {p : Nat} {f : Nat → Bool} (h : SetAt w p f) (he : w'.heap[p]? = w.heap[p]?) : SetAt w' p f := by
 obtain ⟨ws, h1, h2⟩ := h
 exact ⟨ws, h1, he.trans h2⟩
theorem SetAt.lt {w : World} {p : Nat} {f : Nat → Bool} (h : SetAt w p f) : p < w.heap.size := by
 obtain ⟨ws, h1, h2⟩ := h
 exact (Array.getElem?_eq_some_iff.1 h2).1
/-! rows owned, kept -/
theorem ownsRow_blk {w w' : World} {base : Nat} {e : TypeId} {size : Nat} {v : Value} {n : Nat} {xs : List Value} (h : w.ownsRow base e size v n xs) (hk : ∀ k, v.ownBlock = some k → w'.heap[k]? = w.heap[k]?) : w'.ownsRow base e size v n xs := by
 refine ⟨h.1, ?_⟩
 rcases h.2 with hn | ⟨g, cap, cur, rfl, hb, hg, rest⟩
 ·exact .inl hn
 ·exact .inr ⟨g, cap, cur, rfl, hb, (hk g rfl).trans hg, rest⟩
theorem ownsRow_set {w : World} {base : Nat} {e : TypeId} {size : Nat} {v : Value} {n : Nat} {xs : List Value} (h : w.ownsRow base e size v n xs) {g j : Nat} (hg : v.ownBlock = some g) (u : Value) : (w.setCell ⟨g, j, none⟩ u).ownsRow base e size v n (xs.set j u) := by
 refine ⟨by rw [List.length_set]; exact h.1, ?_⟩
 rcases h.2 with ⟨rfl, _⟩ | ⟨g', cap, cur, rfl, hb, hg', hle, hcap, hsz, htk⟩
 ·simp [Value.ownBlock] at hg
 ·obtain rfl : g' = g := by simpa [Value.ownBlock] using hg
  refine .inr ⟨g', cap, cur.setIfInBounds j u, rfl, hb, heap_setCell_same w g' j cur e u hg', hle, hcap, by simpa using hsz, ?_⟩
  rw [Array.toList_setIfInBounds, List.take_set, htk]
theorem ownsRow_cell {w : World} {base : Nat} {e : TypeId} {size : Nat} {v : Value} {n : Nat} {xs : List Value} (h : w.ownsRow base e size v n xs) {g j : Nat} {u : Value} (hg : v.ownBlock = some g) (hj : xs[j]? = some u) : w.cell? ⟨g, j, none⟩ = some u ∧ w.frozen? ⟨g, j, none⟩ = false := by
 have h1 := h.cells hg j u hj
 rw [show (⟨g, 0, none⟩ : Addr).add j = ⟨g, 0 + j, none⟩ from by unfold Addr.add; split <;> simp_all] at h1
 rw [Nat.zero_add] at h1
 refine ⟨h1, ?_⟩
 rcases h.2 with ⟨rfl, _⟩ | ⟨g', cap, cur, rfl, hb, hg', _⟩
 ·simp [Value.ownBlock] at hg
 ·obtain rfl : g' = g := by simpa [Value.ownBlock] using hg
  exact frozen_of_row w g' j cur e hg'
/-! the states -/
def PtrAt (w : World) (own : Nat → Prop) (x : St) (v : Value) : Prop := match x.set with
 | none => v = .pointer none
 | some f => ∃ k, v = .pointer (some ⟨k, 0, none⟩) ∧ SetAt w k f ∧ own k
def freeC (l : List Nat) : List Value := l.map fun (n : Nat) => Value.int .i64 (n : Int)
def FreeAt (w : World) (own : Nat → Prop) (x : St) (v : Value) : Prop := w.ownsRow 0 3 1 v x.free.length (freeC x.free) ∧ ∀ k, v.ownBlock = some k → own k
def stC : List St → List (Value × Value) → List Value
 | x :: l, e :: m => e.1 :: .int .i64 x.next :: e.2 :: stC l m
 | _, _ => []
theorem stC_app : ∀ (l : List St) (m : List (Value × Value)) (x : St) (e : Value × Value), m.length = l.length → stC (l ++ [x]) (m ++ [e]) = stC l m ++ [e.1, .int .i64 x.next, e.2]
 | [], [], _, _, _ => rfl
 | [], _ :: _, _, _, h => by cases h
 | _ :: _, [], _, _, h => by cases h
 | _ :: l, _ :: m, x, e, h => by simp [stC, stC_app l m x e (by simpa using h)]
theorem stC_at : ∀ (l : List St) (m : List (Value × Value)) (i : Nat) (x : St) (e : Value × Value), l[i]? = some x → m[i]? = some e →
  (stC l m)[i * 3]? = some e.1 ∧ (stC l m)[i * 3 + 1]? = some (.int .i64 x.next) ∧ (stC l m)[i * 3 + 2]? = some e.2
 | [], _, _, _, _, h, _ => by simp at h
 | _ :: _, [], _, _, _, _, h => by simp at h
 | y :: l, d :: m, 0, x, e, h, h' => by simp at h h'; subst h h'; exact ⟨rfl, rfl, rfl⟩
 | y :: l, d :: m, i + 1, x, e, h, h' => by
  have := stC_at l m i x e (by simpa using h) (by simpa using h')
  rw [show (i + 1) * 3 = i * 3 + 3 by omega]
  exact this
theorem stC_set2 : ∀ (l : List St) (m : List (Value × Value)) (i : Nat) (e : Value × Value) (v : Value), m[i]? = some e → (stC l m).set (i * 3 + 2) v = stC l (m.set i (e.1, v))
 | [], m, i, e, v, h => by cases m <;> simp [stC]
 | _ :: _, [], _, _, _, h => by simp at h
 | y :: l, d :: m, 0, e, v, h => by simp at h; subst h; rfl
 | y :: l, d :: m, i + 1, e, v, h => by
  have := stC_set2 l m i e v (by simpa using h)
  rw [show (i + 1) * 3 + 2 = (i * 3 + 2) + 3 by omega]
  simp [stC, this]
theorem stC_addF : ∀ (l : List St) (m : List (Value × Value)) (f t : Nat), stC (addF l f t) m = stC l m
 | [], _, _, _ => rfl
 | x :: l, [], f, t => by cases f <;> rfl
 | x :: l, e :: m, 0, t => rfl
 | x :: l, e :: m, f + 1, t => by simp [addF, stC, stC_addF l m f t]
theorem addF_get : ∀ (l : List St) (f t i : Nat), (addF l f t)[i]? = (l[i]?).map fun x => if i = f then { x with free := x.free ++ [t] } else x
 | [], _, _, _ => by simp [addF]
 | x :: l, 0, t, 0 => by simp [addF]
 | x :: l, 0, t, i + 1 => by simp [addF]
 | x :: l, f + 1, t, 0 => by simp [addF]
 | x :: l, f + 1, t, i + 1 => by simp [addF, addF_get l f t i]
structure BldV (w : World) (g : Nat) (s : ByteArray) (b : Bs) (own : Nat → Prop) (sv : Value) (es : List (Value × Value)) : Prop where
 blk : w.heap[g]? = some (.cells #[.string s, .int .i64 b.pos, .int .i64 b.err, sv] 130 (0, 0))
 og : own g
 lt : ∀ k, own k → k < w.heap.size
 len : es.length = b.sts.length
 row : w.ownsRow 0 159 3 sv b.sts.length (stC b.sts es)
 orow : ∀ k, sv.ownBlock = some k → own k ∧ k ≠ g
 ptr : ∀ (i : Nat) x (e : Value × Value), b.sts[i]? = some x → es[i]? = some e → PtrAt w own x e.1
 free : ∀ (i : Nat) x (e : Value × Value), b.sts[i]? = some x → es[i]? = some e → FreeAt w own x e.2
 far : ∀ (i : Nat) (e : Value × Value) k, es[i]? = some e → e.2.ownBlock = some k → k ≠ g ∧ sv.ownBlock ≠ some k
 pfar : ∀ (i : Nat) (e : Value × Value) k, es[i]? = some e → e.1 = .pointer (some ⟨k, 0, none⟩) → k ≠ g ∧ sv.ownBlock ≠ some k ∧ ∀ (j : Nat) (e' : Value × Value), es[j]? = some e' → e'.2.ownBlock ≠ some k
 apart : ∀ (i j : Nat) (e e' : Value × Value) k, es[i]? = some e → es[j]? = some e' → e.2.ownBlock = some k → e'.2.ownBlock = some k → i = j
def Bld (w : World) (g : Nat) (s : ByteArray) (b : Bs) (own : Nat → Prop) : Prop := ∃ sv es, BldV w g s b own sv es
theorem PtrAt.kept {w w' : World} {own : Nat → Prop} {x : St} {v : Value} (h : PtrAt w own x v) (hk : ∀ k, v = .pointer (some ⟨k, 0, none⟩) → w'.heap[k]? = w.heap[k]?) : PtrAt w' own x v := by
 unfold PtrAt at h ⊢
 split
 ·rename_i e; rw [e] at h; exact h
 ·rename_i f e
  rw [e] at h
  obtain ⟨k, h1, h2, h3⟩ := h
  exact ⟨k, h1, h2.blk (hk k h1), h3⟩
theorem PtrAt.own {w : World} {own : Nat → Prop} {x : St} {v : Value} (h : PtrAt w own x v) {k : Nat} (hv : v = .pointer (some ⟨k, 0, none⟩)) : own k := by
 unfold PtrAt at h
 split at h
 ·rw [hv] at h; cases h
 ·obtain ⟨k', h1, _, h3⟩ := h
  rw [hv] at h1
  simp at h1
  exact h1 ▸ h3
theorem PtrAt.mono {w : World} {own own' : Nat → Prop} {x : St} {v : Value} (h : PtrAt w own x v) (ho : ∀ k, own k → own' k) : PtrAt w own' x v := by
 unfold PtrAt at h ⊢
 split
 ·rename_i e; rw [e] at h; exact h
 ·rename_i f e
  rw [e] at h
  obtain ⟨k, h1, h2, h3⟩ := h
  exact ⟨k, h1, h2, ho k h3⟩
theorem BldV.kept {w w' : World} {g : Nat} {s : ByteArray} {b : Bs} {own : Nat → Prop} {sv : Value} {es : List (Value × Value)} (h : BldV w g s b own sv es) (hz : w.heap.size ≤ w'.heap.size) (hk : ∀ k, own k → w'.heap[k]? = w.heap[k]?) : BldV w' g s b own sv es where
 blk := (hk g h.og).trans h.blk
 og := h.og
 lt := fun k hk => Nat.lt_of_lt_of_le (h.lt k hk) hz
 len := h.len
 row := ownsRow_blk h.row (fun k e => hk k (h.orow k e).1)
 orow := h.orow
 ptr := fun i x e hx he => (h.ptr i x e hx he).kept (fun k hv => hk k ((h.ptr i x e hx he).own hv))
 free := fun i x e hx he => ⟨ownsRow_blk (h.free i x e hx he).1 (fun k e' => hk k ((h.free i x e hx he).2 k e')), (h.free i x e hx he).2⟩
 far := h.far
 pfar := h.pfar
 apart := h.apart
theorem Bld.below {w w' : World} {g : Nat} {s : ByteArray} {b : Bs} {own : Nat → Prop} (h : Bld w g s b own) (hb : Below w.heap.size w w') : Bld w' g s b own := by
 obtain ⟨sv, es, h⟩ := h
 exact ⟨sv, es, h.kept hb.size (fun k hk => hb.block k (h.lt k hk))⟩
theorem Bld.lt {w : World} {g : Nat} {s : ByteArray} {b : Bs} {own : Nat → Prop} (h : Bld w g s b own) : ∀ k, own k → k < w.heap.size := by
 obtain ⟨sv, es, h⟩ := h
 exact h.lt
theorem Bld.og {w : World} {g : Nat} {s : ByteArray} {b : Bs} {own : Nat → Prop} (h : Bld w g s b own) : own g := by
 obtain ⟨sv, es, h⟩ := h
 exact h.og
theorem Bld.box {w : World} {g : Nat} {s : ByteArray} {b : Bs} {own : Nat → Prop} (h : Bld w g s b own) {p : Addr} (hn : ¬ own p.block) (v : Value) : Bld (w.setCell p v) g s b own := by
 obtain ⟨sv, es, h⟩ := h
 exact ⟨sv, es, h.kept (by simp) (fun k hk => heap_setCell_other w p k v (fun e => hn (e ▸ hk)))⟩
theorem BldV.cells {w : World} {g : Nat} {s : ByteArray} {b : Bs} {own : Nat → Prop} {sv : Value} {es : List (Value × Value)} (h : BldV w g s b own sv es) :
  w.cell? ⟨g, 0, none⟩ = some (.string s) ∧ w.cell? ⟨g, 1, none⟩ = some (.int .i64 b.pos) ∧ w.cell? ⟨g, 2, none⟩ = some (.int .i64 b.err) ∧ w.cell? ⟨g, 3, none⟩ = some sv ∧ ∀ j, w.frozen? ⟨g, j, none⟩ = false :=
 ⟨by rw [cell_of_row _ _ _ _ _ _ h.blk]; rfl, by rw [cell_of_row _ _ _ _ _ _ h.blk]; rfl, by rw [cell_of_row _ _ _ _ _ _ h.blk]; rfl, by rw [cell_of_row _ _ _ _ _ _ h.blk]; rfl, fun j => frozen_of_row w g j _ _ h.blk⟩
theorem BldV.turn {w w' : World} {g : Nat} {s : ByteArray} {b b' : Bs} {own : Nat → Prop} {sv : Value} {es : List (Value × Value)} (h : BldV w g s b own sv es) (hz : w'.heap.size = w.heap.size) (hs : b'.sts = b.sts)
  (hg : w'.heap[g]? = some (.cells #[.string s, .int .i64 b'.pos, .int .i64 b'.err, sv] 130 (0, 0))) (hk : ∀ k, k ≠ g → w'.heap[k]? = w.heap[k]?) : BldV w' g s b' own sv es where
 blk := hg
 og := h.og
 lt := fun k hk => by rw [hz]; exact h.lt k hk
 len := by rw [hs]; exact h.len
 row := by rw [hs]; exact ownsRow_blk h.row (fun k e => hk k (h.orow k e).2)
 orow := h.orow
 ptr := fun i x e hx he => by rw [hs] at hx; exact (h.ptr i x e hx he).kept (fun k hv => hk k (h.pfar i e k he hv).1)
 free := fun i x e hx he => by rw [hs] at hx; exact ⟨ownsRow_blk (h.free i x e hx he).1 (fun k e' => hk k (h.far i e k he e').1), (h.free i x e hx he).2⟩
 far := h.far
 pfar := h.pfar
 apart := h.apart
theorem Bld.step {w : World} {g : Nat} {s : ByteArray} {b : Bs} {own : Nat → Prop} (h : Bld w g s b own) : Bld (w.setCell ⟨g, 1, none⟩ (.int .i64 ((b.pos : Int) + 1))) g s (stepM b) own := by
 obtain ⟨sv, es, h⟩ := h
 refine ⟨sv, es, h.turn (by simp) rfl ?_ (fun k hk => heap_setCell_other _ _ _ _ hk)⟩
 rw [heap_setCell_same w g 1 _ _ _ h.blk]
 rfl
theorem Bld.err {w : World} {g : Nat} {s : ByteArray} {b : Bs} {own : Nat → Prop} (h : Bld w g s b own) (e : Int) : Bld (w.setCell ⟨g, 2, none⟩ (.int .i64 e)) g s { b with err := e } own := by
 obtain ⟨sv, es, h⟩ := h
 refine ⟨sv, es, h.turn (by simp) rfl ?_ (fun k hk => heap_setCell_other _ _ _ _ hk)⟩
 rw [heap_setCell_same w g 2 _ _ _ h.blk]
 rfl
theorem get_snoc {α : Type} {l : List α} {x y : α} {i : Nat} (h : (l ++ [x])[i]? = some y) : l[i]? = some y ∨ (i = l.length ∧ y = x) := by
 rcases Nat.lt_or_ge i l.length with hi | hi
 ·rw [List.getElem?_append_left hi] at h; exact .inl h
 ·rw [List.getElem?_append_right hi] at h
  rcases Nat.eq_zero_or_pos (i - l.length) with h0 | h0
  ·rw [h0] at h; simp at h; exact .inr ⟨by omega, h.symm⟩
  ·rw [List.getElem?_eq_none (by simp; omega)] at h; cases h
theorem BldV.node {w w1 : World} {g : Nat} {s : ByteArray} {b : Bs} {own : Nat → Prop} {sv sv' : Value} {es : List (Value × Value)} (h : BldV w g s b own sv es) (hg : w.grownBy w1 sv.ownBlock)
  (hr : w1.ownsRow 0 159 3 sv' (b.sts.length + 1) (stC b.sts es ++ [.pointer none, .int .i64 0, .slice none 0 0])) {k' : Nat} (hk' : sv'.ownBlock = some k') (hl : sv.ownBlock = some k' ∨ w.heap.size ≤ k') (hlt : k' < w1.heap.size) :
  BldV (w1.setCell ⟨g, 3, none⟩ sv') g s (nodeM b) (fun k => own k ∨ k = k') sv' (es ++ [(.pointer none, .slice none 0 0)]) := by
 have hgs : sv.ownBlock ≠ some g := fun e => (h.orow g e).2 rfl
 have hgl := h.lt g h.og
 have hgk : g ≠ k' := by
  rintro rfl
  rcases hl with h1 | h1
  ·exact hgs h1
  ·omega
 have hold : ∀ k, own k → k ≠ g → sv.ownBlock ≠ some k → (w1.setCell ⟨g, 3, none⟩ sv').heap[k]? = w.heap[k]? := fun k hk h1 h2 =>
  (heap_setCell_other w1 ⟨g, 3, none⟩ k sv' h1).trans (hg.block k (h.lt k hk) (fun e => h2 e.symm))
 have hnk : ∀ k, own k → sv.ownBlock ≠ some k → k ≠ k' := by
  rintro k hk h1 rfl
  rcases hl with h2 | h2
  ·exact h1 h2
  ·have := h.lt k hk; omega
 have hg1 : w1.heap[g]? = some (.cells #[.string s, .int .i64 b.pos, .int .i64 b.err, sv] 130 (0, 0)) := (hg.block g hgl (fun e => hgs e.symm)).trans h.blk
 refine ⟨?_, .inl h.og, ?_, ?_, ?_, ?_, ?_, ?_, ?_, ?_, ?_⟩
 ·rw [heap_setCell_same w1 g 3 _ _ _ hg1]; rfl
 ·rintro k (hk | rfl)
  ·have := h.lt k hk; have := hg.size; simp; omega
  ·simpa using hlt
 ·simp [nodeM, h.len]
 ·have := ownsRow_blk hr (w' := w1.setCell ⟨g, 3, none⟩ sv') (fun k e => heap_setCell_other w1 ⟨g, 3, none⟩ k sv' (by rw [hk'] at e; exact fun e' => hgk (e'.symm.trans (Option.some.inj e).symm)))
  simp only [nodeM, List.length_append, List.length_cons, List.length_nil]
  rw [stC_app b.sts es _ _ h.len]
  exact this
 ·intro k e
  rw [hk'] at e
  obtain rfl := Option.some.inj e
  exact ⟨.inr rfl, fun e => hgk e.symm⟩
 ·intro i x e hx he
  rcases get_snoc hx with hx | ⟨hi, rfl⟩
  ·rcases get_snoc he with he | ⟨hi', rfl⟩
   ·exact ((h.ptr i x e hx he).kept (fun k hv => hold k ((h.ptr i x e hx he).own hv) (h.pfar i e k he hv).1 (h.pfar i e k he hv).2.1)).mono (fun k hk => .inl hk)
   ·have := (List.getElem?_eq_some_iff.1 hx).1; have := h.len; omega
  ·rcases get_snoc he with he | ⟨hi', rfl⟩
   ·have := (List.getElem?_eq_some_iff.1 he).1; have := h.len; omega
   ·rfl
 ·intro i x e hx he
  rcases get_snoc hx with hx | ⟨hi, rfl⟩
  ·rcases get_snoc he with he | ⟨hi', rfl⟩
   ·obtain ⟨h1, h2⟩ := h.free i x e hx he
    exact ⟨ownsRow_blk h1 (fun k e' => hold k (h2 k e') (h.far i e k he e').1 (h.far i e k he e').2), fun k hk => .inl (h2 k hk)⟩
   ·have := (List.getElem?_eq_some_iff.1 hx).1; have := h.len; omega
  ·rcases get_snoc he with he | ⟨hi', rfl⟩
   ·have := (List.getElem?_eq_some_iff.1 he).1; have := h.len; omega
   ·exact ⟨World.ownsRow_nil _ _ _ _, fun k hk => by simp [Value.ownBlock] at hk⟩
 ·intro i e k he hk
  rcases get_snoc he with he | ⟨hi', rfl⟩
  ·obtain ⟨h1, h2⟩ := h.far i e k he hk
   refine ⟨h1, fun e' => ?_⟩
   rw [hk'] at e'
   have hx : ∃ x, b.sts[i]? = some x := ⟨_, List.getElem?_eq_getElem (by rw [← h.len]; exact (List.getElem?_eq_some_iff.1 he).1)⟩
   obtain ⟨x, hx⟩ := hx
   exact hnk k ((h.free i x e hx he).2 k hk) h2 (Option.some.inj e').symm
  ·simp [Value.ownBlock] at hk
 ·intro i e k he hk
  rcases get_snoc he with he | ⟨hi', rfl⟩
  ·obtain ⟨h1, h2, h3⟩ := h.pfar i e k he hk
   have hx : ∃ x, b.sts[i]? = some x := ⟨_, List.getElem?_eq_getElem (by rw [← h.len]; exact (List.getElem?_eq_some_iff.1 he).1)⟩
   obtain ⟨x, hx⟩ := hx
   refine ⟨h1, fun e' => ?_, ?_⟩
   ·rw [hk'] at e'
    exact hnk k ((h.ptr i x e hx he).own hk) h2 (Option.some.inj e').symm
   ·intro j e' he'
    rcases get_snoc he' with he' | ⟨_, rfl⟩
    ·exact h3 j e' he'
    ·simp [Value.ownBlock]
  ·simp at hk
 ·intro i j e e' k he he' hk hk''
  rcases get_snoc he with he | ⟨_, rfl⟩
  ·rcases get_snoc he' with he' | ⟨_, rfl⟩
   ·exact h.apart i j e e' k he he' hk hk''
   ·simp [Value.ownBlock] at hk''
  ·simp [Value.ownBlock] at hk
theorem get_set {α : Type} {l : List α} {x y : α} {i j : Nat} (h : (l.set i x)[j]? = some y) : (j = i ∧ y = x) ∨ (j ≠ i ∧ l[j]? = some y) := by
 rw [List.getElem?_set] at h
 split at h
 ·rename_i e
  split at h
  ·exact .inl ⟨e.symm, (Option.some.inj h).symm⟩
  ·cases h
 ·rename_i e
  exact .inr ⟨fun e' => e e'.symm, h⟩
theorem BldV.way {w w1 : World} {g : Nat} {s : ByteArray} {b : Bs} {own : Nat → Prop} {sv : Value} {es : List (Value × Value)} (h : BldV w g s b own sv es) {f t : Nat} {x : St} {e : Value × Value} (hx : b.sts[f]? = some x) (he : es[f]? = some e)
  (hg : w.grownBy w1 e.2.ownBlock) {fv : Value} {r k' : Nat} (hr : w1.ownsRow 0 3 1 fv (x.free.length + 1) (freeC x.free ++ [.int .i64 t])) (hk' : fv.ownBlock = some k') (hl : e.2.ownBlock = some k' ∨ w.heap.size ≤ k') (hlt : k' < w1.heap.size) (hsv : sv.ownBlock = some r) :
  BldV (w1.setCell ⟨r, f * 3 + 2, none⟩ fv) g s (freeM b f t) (fun k => own k ∨ k = k') sv (es.set f (e.1, fv)) := by
 obtain ⟨hr1, hr2⟩ := h.orow r hsv
 have hfl := (List.getElem?_eq_some_iff.1 hx).1
 have her : e.2.ownBlock ≠ some r := fun e' => (h.far f e r he e').2 hsv
 have hgr : g ≠ r := fun e => hr2 e.symm
 have hrk : r ≠ k' := by
  rintro rfl
  rcases hl with h1 | h1
  ·exact her h1
  ·have := h.lt r hr1; omega
 have hold : ∀ k, own k → k ≠ r → e.2.ownBlock ≠ some k → (w1.setCell ⟨r, f * 3 + 2, none⟩ fv).heap[k]? = w.heap[k]? := fun k hk h1 h2 =>
  (heap_setCell_other w1 ⟨r, f * 3 + 2, none⟩ k fv h1).trans (hg.block k (h.lt k hk) (fun e => h2 e.symm))
 have hnk : ∀ k, own k → e.2.ownBlock ≠ some k → k ≠ k' := by
  rintro k hk h1 rfl
  rcases hl with h2 | h2
  ·exact h1 h2
  ·have := h.lt k hk; omega
 have heg : e.2.ownBlock ≠ some g := fun e' => (h.far f e g he e').1 rfl
 have row1 : w1.ownsRow 0 159 3 sv b.sts.length (stC b.sts es) := ownsRow_blk h.row (fun k e' => hg.block k (h.lt k (h.orow k e').1) (fun e'' => by rw [hsv] at e'; exact her (e''.symm.trans e'.symm)))
 have xget : ∀ i, ∀ d, es[i]? = some d → ∃ y, b.sts[i]? = some y := fun i d hd => ⟨_, List.getElem?_eq_getElem (by rw [← h.len]; exact (List.getElem?_eq_some_iff.1 hd).1)⟩
 refine ⟨?_, .inl h.og, ?_, ?_, ?_, ?_, ?_, ?_, ?_, ?_, ?_⟩
 ·exact (hold g h.og hgr heg).trans h.blk
 ·rintro k (hk | rfl)
  ·have := h.lt k hk; have := hg.size; simp; omega
  ·simpa using hlt
 ·simp [freeM, addF_len, h.len]
 ·simp only [freeM, addF_len, stC_addF]
  rw [← stC_set2 b.sts es f e fv he]
  exact ownsRow_set row1 hsv fv
 ·intro k e'
  obtain ⟨h1, h2⟩ := h.orow k e'
  exact ⟨.inl h1, h2⟩
 ·intro i y d hy hd
  simp only [freeM, addF_get] at hy
  rcases get_set hd with ⟨rfl, rfl⟩ | ⟨hi, hd⟩
  ·rw [hx] at hy
   simp at hy
   subst hy
   have hp := h.ptr i x e hx he
   exact (hp.kept (fun k hv => hold k (hp.own hv) (fun e' => (h.pfar i e k he hv).2.1 (e' ▸ hsv)) ((h.pfar i e k he hv).2.2 i e he))).mono (fun k hk => .inl hk)
  ·obtain ⟨y', hy'⟩ := xget i d hd
   rw [hy'] at hy
   simp [hi] at hy
   subst hy
   have hp := h.ptr i y' d hy' hd
   exact (hp.kept (fun k hv => hold k (hp.own hv) (fun e' => (h.pfar i d k hd hv).2.1 (e' ▸ hsv)) ((h.pfar i d k hd hv).2.2 f e he))).mono (fun k hk => .inl hk)
 ·intro i y d hy hd
  simp only [freeM, addF_get] at hy
  rcases get_set hd with ⟨rfl, rfl⟩ | ⟨hi, hd⟩
  ·rw [hx] at hy
   simp at hy
   subst hy
   refine ⟨?_, fun k hk => .inr (by rw [hk'] at hk; exact (Option.some.inj hk).symm)⟩
   have := ownsRow_blk hr (w' := w1.setCell ⟨r, i * 3 + 2, none⟩ fv) (fun k e' => heap_setCell_other w1 ⟨r, i * 3 + 2, none⟩ k fv (by rw [hk'] at e'; exact fun e'' => hrk (e''.symm.trans (Option.some.inj e').symm)))
   simpa [freeC] using this
  ·obtain ⟨y', hy'⟩ := xget i d hd
   rw [hy'] at hy
   simp [hi] at hy
   subst hy
   obtain ⟨h1, h2⟩ := h.free i y' d hy' hd
   exact ⟨ownsRow_blk h1 (fun k e' => hold k (h2 k e') (fun e'' => (h.far i d k hd e').2 (e'' ▸ hsv)) (fun e'' => hi (h.apart i f d e k hd he e' e''))), fun k hk => .inl (h2 k hk)⟩
 ·intro i d k hd hk
  rcases get_set hd with ⟨rfl, rfl⟩ | ⟨hi, hd⟩
  ·dsimp only at hk
   rw [hk'] at hk
   obtain rfl := Option.some.inj hk
   refine ⟨fun e' => ?_, fun e' => ?_⟩
   ·subst e'; exact hnk _ h.og heg rfl
   ·rw [hsv] at e'; exact hrk (Option.some.inj e')
  ·exact h.far i d k hd hk
 ·intro i d k hd hk
  have hnew : ∀ k, own k → (∀ (j : Nat) (e' : Value × Value), es[j]? = some e' → e'.2.ownBlock ≠ some k) → ∀ (j : Nat) (e' : Value × Value), (es.set f (e.1, fv))[j]? = some e' → e'.2.ownBlock ≠ some k := by
   intro k hk h3 j e' he'
   rcases get_set he' with ⟨rfl, rfl⟩ | ⟨hj, he'⟩
   ·dsimp only
    rw [hk']
    exact fun e'' => hnk k hk (h3 j e he) (Option.some.inj e'').symm
   ·exact h3 j e' he'
  rcases get_set hd with ⟨rfl, rfl⟩ | ⟨hi, hd⟩
  ·obtain ⟨h1, h2, h3⟩ := h.pfar i e k he hk
   exact ⟨h1, h2, hnew k ((h.ptr i x e hx he).own hk) h3⟩
  ·obtain ⟨y', hy'⟩ := xget i d hd
   obtain ⟨h1, h2, h3⟩ := h.pfar i d k hd hk
   exact ⟨h1, h2, hnew k ((h.ptr i y' d hy' hd).own hk) h3⟩
 ·intro i j d d' k hd hd' hk hk''
  rcases get_set hd with ⟨hi, hd1⟩ | ⟨hi, hd1⟩
  ·rcases get_set hd' with ⟨hj, hd1'⟩ | ⟨hj, hd1'⟩
   ·rw [hi, hj]
   ·rw [hd1] at hk
    dsimp only at hk
    rw [hk'] at hk
    obtain rfl := Option.some.inj hk
    obtain ⟨y', hy'⟩ := xget j d' hd1'
    exact absurd rfl (hnk _ ((h.free j y' d' hy' hd1').2 _ hk'') (fun e'' => hj (h.apart j f d' e _ hd1' he hk'' e'')))
  ·rcases get_set hd' with ⟨hj, hd1'⟩ | ⟨hj, hd1'⟩
   ·rw [hd1'] at hk''
    dsimp only at hk''
    rw [hk'] at hk''
    obtain rfl := Option.some.inj hk''
    obtain ⟨y', hy'⟩ := xget i d hd1
    exact absurd rfl (hnk _ ((h.free i y' d hy' hd1).2 _ hk) (fun e'' => hi (h.apart i f d e _ hd1 he hk e'')))
   ·exact h.apart i j d d' k hd1 hd1' hk hk''
end Go.Proofs.YtgbapkechngnmaaGreat
/- pattern's builder: peek, fail: contracts. -/
namespace Go.Proofs.YtgbapkechngnmaaGreat
open Go.RowKit
theorem peekM_of {s : ByteArray} {b : Bs} (he : b.err = 0) (hp : b.pos < s.size) : peekM s b = some (byteM s b.pos) := by unfold peekM; rw [if_pos ⟨he, hp⟩]
theorem byteM_at (s : ByteArray) (k : Nat) (h : k < s.size) : ((s[k]'h).toNat : Int) = (byteM s k : Int) := by unfold byteM; rw [dif_pos h]
set_option maxHeartbeats 1600000 in
set_option maxRecDepth 100000 in
theorem peek_is (w : World) (g : Nat) (s : ByteArray) (b : Bs) (own : Nat → Prop) (o : Option Nat) (ho : peekM s b = o) (h : Bld w g s b own) (hp : b.pos ≤ 2000000) :
  Calls Tryz.prog 108 #[.pointer (some ⟨g, 0, none⟩)] w fun e w' => e = .returned (.tuple #[.int .u8 ((o.getD 0 : Nat) : Int), .bool o.isSome]) ∧ Below w.heap.size w w' := by
 obtain ⟨sv, es, hB⟩ := h
 obtain ⟨c0, c1, c2, c3, _⟩ := hB.cells
 obtain ⟨pos, err, sts⟩ := b
 dsimp only at c1 c2 hp
 clear hB
 by_cases he : err = 0
 ·subst he
  by_cases hps : pos < s.size
  ·have hb : peekM s ⟨pos, 0, sts⟩ = some (byteM s pos) := peekM_of rfl hps
   rw [hb] at ho
   subst ho
   have hn : decide ((pos : Int) < (s.size : Int)) = true := by simpa using hps
   have hn2 : decide ((s.size : Int) ≤ (pos : Int)) = false := by simpa using hps
   have hn3 : decide (s.size ≤ pos) = false := by simpa using hps
   have hi : (0 : Int) ≤ (pos : Int) := by omega
   have hi2 : (pos : Int) < (s.size : Int) := by omega
   have HB := byteM_at s pos hps
   have HB' := Lib.hid HB
   clear hb HB
   go_enter Tryz.func108, Tryz.ntmps108
   go_wp2
   go_quiet (fail)
   go_wp2
   go_quiet (fail)
   go_wp2
   go_ret2
   refine ⟨?_, ?_⟩
   ·simp only [Option.getD_some, Option.isSome_some]
    rw [← HB'.out]
    rfl
   ·exact bl_drewN (bl_drewN (Below.refl _ _) _) _
  ·have hb : peekM s ⟨pos, 0, sts⟩ = none := by unfold peekM; rw [if_neg (fun h => hps h.2)]
   rw [hb] at ho
   subst ho
   have hn : decide ((pos : Int) < (s.size : Int)) = false := by simpa using hps
   have hn2 : decide ((s.size : Int) ≤ (pos : Int)) = true := by simp; omega
   have hn3 : decide (s.size ≤ pos) = true := by simp; omega
   clear hb
   go_enter Tryz.func108, Tryz.ntmps108
   go_wp2
   go_quiet (fail)
   go_wp2
   go_ret2
   exact ⟨rfl, bl_drewN (Below.refl _ _) _⟩
 ·have hb : peekM s ⟨pos, err, sts⟩ = none := by unfold peekM; rw [if_neg (fun h => he h.1)]
  rw [hb] at ho
  subst ho
  have hd : (err != 0) = true := by simpa using he
  have hd2 : (err == 0) = false := by simpa using he
  clear hb
  go_enter Tryz.func108, Tryz.ntmps108
  go_wp2
  go_quiet (fail)
  go_wp2
  go_ret2
  exact ⟨rfl, bl_drewN (Below.refl _ _) _⟩
set_option maxHeartbeats 800000 in
set_option maxRecDepth 100000 in
theorem fail_is (w : World) (g : Nat) (s : ByteArray) (b : Bs) (own : Nat → Prop) (e0 : Int) (h : Bld w g s b own) :
  Calls Tryz.prog 85 #[.pointer (some ⟨g, 0, none⟩), .int .i64 e0] w fun e w' => e = .returned (.tuple #[]) ∧ Bld w' g s (failM b e0) own ∧ Stp own w own w' := by
 have h' := h
 obtain ⟨sv, es, hB⟩ := h
 obtain ⟨c0, c1, c2, c3, fz⟩ := hB.cells
 have f2 := fz 2
 have hog := hB.og
 obtain ⟨pos, err, sts⟩ := b
 dsimp only at c1 c2
 clear hB fz
 by_cases he : err = 0
 ·subst he
  have HN := Lib.hid (h'.err e0)
  have HF : Hid (failM ⟨pos, 0, sts⟩ e0 = ⟨pos, e0, sts⟩) := Lib.hid rfl
  clear h'
  go_enter Tryz.func85, Tryz.ntmps85
  go_wp2
  go_end0
  refine ⟨rfl, ?_, Stp.setCell hog _⟩
  rw [HF.out]
  exact HN.out
 ·have hd2 : (err == 0) = false := by simpa using he
  have HF : Hid (failM ⟨pos, err, sts⟩ e0 = ⟨pos, err, sts⟩) := Lib.hid (by unfold failM; rw [if_neg he])
  have HN := Lib.hid h'
  clear h'
  go_enter Tryz.func85, Tryz.ntmps85
  go_wp2
  go_end0
  refine ⟨rfl, ?_, Stp.refl _ _⟩
  rw [HF.out]
  exact HN.out
end Go.Proofs.YtgbapkechngnmaaGreat
/- Regions that draw their order and END IN A STORE (number L, which waits for all): the fact S is shown behind every operation but that one. No program in sight. -/
namespace Go
variable {P : Program} {ops : Array Oper} {Q : Exit → Act → World → Prop} {md : Region.Mode} {S : World → Prop} {L : Nat}
def wpAnyEnd (P : Program) (md : Region.Mode) (ops : Array Oper) (Q : Exit → Act → World → Prop) (S : World → Prop) (L : Nat) : Nat → Array Bool → Act → World → Prop
 | 0, listed, a, w => Region.ready md ops listed = [] ∧ Q .normal a w
 | fuel + 1, listed, a, w => (Region.ready md ops listed = [] → Q .normal a w) ∧
  ∀ i ∈ Region.ready md ops listed, wpOp P ops Q i (fun a' w' => ((listed.setIfInBounds i true).getD L true = false → S w') ∧ wpAnyEnd P md ops Q S L fuel (listed.setIfInBounds i true) a' w') a w
theorem wpAny_of_End : ∀ (fuel : Nat) (listed : Array Bool) (a : Act) (w : World), wpAnyEnd P md ops Q S L fuel listed a w → wpAny P md ops Q fuel listed a w
 | 0, _, _, _, h => h
 | fuel + 1, _, _, _, h => ⟨h.1, fun i hi => wpOp_mono (fun a' w' h' => wpAny_of_End fuel _ a' w' h'.2) (h.2 i hi)⟩
def waitsB (md : Region.Mode) (ops : Array Oper) (L i : Nat) : Bool := match ops[L]? with | some o => o.after.any (fun e => Region.binds md e && e.on == i) | none => false
theorem not_ready {listed : Array Bool} {i : Nat} (hw : waitsB md ops L i = true) (hi : i ∈ Region.ready md ops listed) : L ∉ Region.ready md ops listed := by
 intro hL
 obtain ⟨_, oL, hoL, hall⟩ := mem_ready.1 hL
 unfold waitsB at hw
 rw [hoL] at hw
 simp only [Array.any_eq_true, Bool.and_eq_true, beq_iff_eq] at hw
 obtain ⟨k, hk, hb, hon⟩ := hw
 have h1 := hall oL.after[k] (Array.getElem_mem hk) hb
 have h0 := (mem_ready.1 hi).1
 rw [hon] at h1
 rcases Nat.lt_or_ge i listed.size with h' | h'
 ·simp [h'] at h0 h1; rw [h0] at h1; cases h1
 ·simp [Array.getElem?_eq_none h'] at h1
theorem wpAnyEnd_first {i : Nat} {oi : Oper} {v : Value} (hi : ops[i]? = some oi) (hsel : ∀ (j : Nat) (o : Oper) cs b, ops[j]? = some o → o.op ≠ .select cs b)
  (hQ : ∀ c a w, Q (.panic c) (a.put oi.dst v) w → Q (.panic c) a w) (hL : waitsB md ops L i = true) :
  ∀ (fuel : Nat) (listed : Array Bool) (a : Act) (w : World),
   (∀ j oj, ops[j]? = some oj → j ≠ i → listed.getD j true = false → (∀ e ∈ oj.after, Region.binds md e = true → e.on ≠ i) → oi.apart ops oj = true) →
   i ∈ Region.ready md ops listed → listed.getD L true = false → YieldsIf P ops S oi v a → S w →
   wpAnyEnd P md ops Q S L fuel (listed.setIfInBounds i true) (a.put oi.dst v) w → wpAnyEnd P md ops Q S L (fuel + 1) listed a w := by
 intro fuel
 induction fuel with
 | zero =>
  intro listed a w _ hr _ hy hS H
  refine ⟨fun h => (by rw [h] at hr; cases hr), fun j hj => ?_⟩
  by_cases hji : j = i
  ·subst hji; exact hy.wpOp hi hS ⟨fun _ => hS, H⟩
  ·have := ready_mono hj hji
   rw [H.1] at this
   cases this
 | succ fuel ih =>
  intro listed a w hfree hr hun0 hy hS H
  refine ⟨fun h => (by rw [h] at hr; cases hr), fun j hj => ?_⟩
  by_cases hji : j = i
  ·subst hji; exact hy.wpOp hi hS ⟨fun _ => hS, H⟩
  ·have hjL : j ≠ L := fun e => not_ready hL hr (e ▸ hj)
   have hiL : i ≠ L := fun e => not_ready hL hr (e ▸ hr)
   have h1 := H.2 j (ready_mono hj hji)
   obtain ⟨hjun, oj, hoj, hall⟩ := mem_ready.1 hj
   have hnot : ∀ e ∈ oj.after, Region.binds md e = true → e.on ≠ i := fun e he hb heq => by
    have h1 := hall e he hb
    have h0 := (mem_ready.1 hr).1
    rw [heq] at h1
    rcases Nat.lt_or_ge i listed.size with h' | h'
    ·simp [h'] at h0 h1; rw [h0] at h1; cases h1
    ·simp [Array.getElem?_eq_none h'] at h1
   have h2 := wpOp_putIf hoj (hfree j oj hoj hji hjun hnot) (fun cs b => hsel i oi cs b hi) (fun cs b => hsel j oj cs b hoj) hQ hy h1
   have hfree' : ∀ k ok, ops[k]? = some ok → k ≠ i → (listed.setIfInBounds j true).getD k true = false →
     (∀ e ∈ ok.after, Region.binds md e = true → e.on ≠ i) → oi.apart ops ok = true := fun k ok hk hki hun hno => by
    refine hfree k ok hk hki ?_ hno
    by_cases hjk : j = k
    ·subst hjk; exact hjun
    ·rw [getD_set_ne true hjk] at hun; exact hun
   have hu1 : (listed.setIfInBounds j true).getD L true = false := by rw [getD_set_ne true hjL]; exact hun0
   have hu2 : ((listed.setIfInBounds i true).setIfInBounds j true).getD L true = false := by rw [getD_set_ne true hjL, getD_set_ne true hiL]; exact hun0
   refine wpOp_mono (fun a' w' h3 => ⟨fun _ => h3.2.1 hu2, ih (listed.setIfInBounds j true) a' w' hfree' (ready_mono hr (Ne.symm hji)) hu1 h3.1 (h3.2.1 hu2) ?_⟩) h2
   rw [Array.setIfInBounds_comm _ _ hji]
   exact h3.2.2
theorem heldS_take {i d : Nat} {oi : Oper} {v : Value} {fuel : Nat} {listed : Array Bool} {a : Act} {w : World} (hi : ops[i]? = some oi) (hd : oi.dst = some d)
  (hs : Region.noSelect ops = true) (hf : Region.free md ops listed i = true) (hr : (Region.ready md ops listed).contains i = true) (hL : waitsB md ops L i = true) (hun : listed.getD L true = false)
  (hQ : ∀ c a w, Q (.panic c) (a.put (some d) v) w → Q (.panic c) a w) (hw : Region.wanted oi (yielded ops a.tmps) = true) (hS : S w)
  (hy : ∀ w, S w → (execOp a.eval oi).run P w = .ok (.value v) w)
  (h : wpAnyEnd P md ops Q S L fuel (listed.setIfInBounds i true) (a.put (some d) v) w) : wpAnyEnd P md ops Q S L (fuel + 1) listed a w :=
 wpAnyEnd_first hi (Region.noSelect_spec hs) (by rw [hd]; exact hQ) hL fuel listed a w (Region.free_spec hi hf) (by simpa using hr) hun (.inl ⟨hw, hy⟩) hS (by rw [hd]; exact h)
theorem heldS_step {i : Nat} {oi : Oper} {fuel : Nat} {listed : Array Bool} {a : Act} {w : World} (hi : ops[i]? = some oi) (hr : Region.ready md ops listed = [i])
  (h : ∀ K' : Act → World → Prop, Shut (∀ a w, S w → (S w → wpAnyEnd P md ops Q S L fuel (listed.setIfInBounds i true) a w) → K' a w) → if Region.wanted oi (yielded ops a.tmps) = true then Oper.wp P oi a w K' Q else K' (a.put oi.dst undef) w) : wpAnyEnd P md ops Q S L (fuel + 1) listed a w :=
 ⟨fun h0 => (by rw [hr] at h0; cases h0), fun j hj => by
  rw [hr] at hj
  obtain rfl := List.mem_singleton.1 hj
  exact wpOp_step hi (fun K' hK => h K' (fun a w hS hW => hK a w ⟨fun _ => hS, hW hS⟩))⟩
theorem heldS_last {i : Nat} {oi : Oper} {fuel : Nat} {listed : Array Bool} {a : Act} {w : World} (hi : ops[i]? = some oi) (hr : Region.ready md ops listed = [i]) (hl : (listed.setIfInBounds i true).getD L true = true)
  (h : ∀ K' : Act → World → Prop, Shut (∀ a w, wpAnyEnd P md ops Q S L fuel (listed.setIfInBounds i true) a w → K' a w) → if Region.wanted oi (yielded ops a.tmps) = true then Oper.wp P oi a w K' Q else K' (a.put oi.dst undef) w) : wpAnyEnd P md ops Q S L (fuel + 1) listed a w :=
 ⟨fun h0 => (by rw [hr] at h0; cases h0), fun j hj => by
  rw [hr] at hj
  obtain rfl := List.mem_singleton.1 hj
  exact wpOp_step hi (fun K' hK => h K' (fun a w hW => hK a w ⟨(fun h0 => by rw [hl] at h0; cases h0), hW⟩))⟩
theorem wpAnyEnd_done {listed : Array Bool} {a : Act} {w : World} (hr : Region.ready md ops listed = []) (h : Q .normal a w) : ∀ fuel, wpAnyEnd P md ops Q S L fuel listed a w
 | 0 => ⟨hr, h⟩
 | _ + 1 => ⟨fun _ => h, by rw [hr]; simp⟩
theorem wp_region_heldS {id : Nat} (L : Nat) {a : Act} {w : World} (hm : P.follows .mixedOrders = true) (hS : S w.drew)
  (h : S w.drew → wpAnyEnd P .any ops Q S L ops.size (Array.replicate ops.size false) a w.drew) : (Code.region id ops true).wp P Q a w :=
 wp_region_any hm (wpAny_of_End _ _ _ _ (h hS))
end Go
/- pattern's builder: node, free, one: contracts. -/
namespace Go.Proofs.YtgbapkechngnmaaGreat
open Go.RowKit
theorem info_state : (Tryz.prog.info? 159).map (fun i => (i.zero, i.size, i.bytes)) = some (some (.agg #[.pointer none, .int .i64 0, .slice none 0 0]), 3, 40) := by kernel_rfl
theorem info_intP : (Tryz.prog.info? 3).map (fun i => (i.zero, i.size, i.bytes)) = some (some (.int .i64 0), 1, 8) := by kernel_rfl
set_option maxHeartbeats 1600000 in
set_option maxRecDepth 100000 in
theorem node_is (w : World) (g : Nat) (s : ByteArray) (b : Bs) (own : Nat → Prop) (h : Bld w g s b own) (hn : b.sts.length ≤ 1000000) :
  Calls Tryz.prog 105 #[.pointer (some ⟨g, 0, none⟩)] w fun e w' => e = .returned (.int .i64 b.sts.length) ∧ ∃ own', Bld w' g s (nodeM b) own' ∧ Stp own w own' w' := by
 obtain ⟨sv, es, hB⟩ := h
 obtain ⟨c0, c1, c2, c3, fz⟩ := hB.cells
 have f3 := fz 3
 have hgl := hB.lt g hB.og
 obtain ⟨i0, hi, hz0, hz1, hz2⟩ := info_parts info_state
 have hba := alloc_below w (.cells #[.pointer none, .int .i64 0, .slice none 0 0] 159)
 have hnb : (w.alloc (.cells #[.pointer none, .int .i64 0, .slice none 0 0] 159)).heap[w.heap.size]? = some (.cells #[.pointer none, .int .i64 0, .slice none 0 0] 159 (0, 0)) := heap_alloc_new _ _
 have hB1 := hB.kept hba.size (fun k hk => hba.block k (hB.lt k hk))
 have hsz : (w.alloc (.cells #[.pointer none, .int .i64 0, .slice none 0 0] 159)).heap.size = w.heap.size + 1 := World.size_alloc _ _
 have HB1 := Lib.hid hB1
 have HNB := Lib.hid hnb
 have HSZ := Lib.hid hsz
 have hrow := hB1.row
 have hone : ∀ u ∈ ([.pointer none, .int .i64 0, .slice none 0 0] : List Value), u.oneCell' = true := by
  intro u hu; simp at hu; rcases hu with rfl | rfl | rfl <;> rfl
 have hgs : sv.ownBlock ≠ some g := fun e => (hB.orow g e).2 rfl
 have hg1 := HB1.out.blk
 have hgl1 := HB1.out.lt g HB1.out.og
 have HG1 := Lib.hid hg1
 clear fz hB1 hnb hsz hB hg1
 go_enter Tryz.func105, Tryz.ntmps105
 go_wp2_with (at_builtin; (refine wpList_append_lies _ rfl (.tmp 7) (.tmp 9) 128 rfl 0 159 i0 (.agg #[.pointer none, .int .i64 0, .slice none 0 0]) 3 40 Tryz.underlying128 hi hz0 hz1 hz2 rfl (by decide) sv b.sts.length (stC b.sts es) rfl hrow ⟨w.heap.size, 0, none⟩ 1 1 [.pointer none, .int .i64 0, .slice none 0 0] rfl rfl (World.news_of_block HNB.out) hone (by decide) (by unfold maxLen; omega) (by omega) (Nat.zero_le _) (w.heap.size + 1) (by simp) ?_); intro gr cap w1 hown hgrow hat hlt; have HW := Lib.hid (And.intro hown (And.intro hgrow (And.intro hat hlt))); have hg2 := (hgrow.block g hgl1 (fun e => hgs e.symm)).trans HG1.out; have c3' := cell_of_row w1 g 3 _ _ _ hg2; have f3' := frozen_of_row w1 g 3 _ _ hg2; clear hown hgrow hat hlt hg2)
 go_ret
 obtain ⟨hown, hgrow, hat, hlt⟩ := HW.out
 refine ⟨rfl, ⟨_, ⟨_, _, HB1.out.node hgrow hown (k' := gr) rfl (by rw [HSZ.out]; exact hat.imp id (fun h => Nat.le_of_eq h.symm)) hlt⟩, ?_⟩⟩
 refine ⟨(((Keep.refl own w).alloc _).grown hgrow (fun k e => .inl (HB1.out.orow k e).1)).setCell (p := ⟨g, 3, none⟩) HB1.out.og _, ?_⟩
 rintro k (hk | rfl)
 ·exact .inl hk
 ·rcases hat with h | h
  ·exact .inl (HB1.out.orow _ h).1
  ·exact .inr (by omega)
set_option maxHeartbeats 3200000 in
set_option maxRecDepth 100000 in
theorem free_is (w : World) (g : Nat) (s : ByteArray) (b : Bs) (own : Nat → Prop) (f t : Nat) (h : Bld w g s b own) (hf : f < b.sts.length) (hn : tot b.sts ≤ 1000000) :
  Calls Tryz.prog 107 #[.pointer (some ⟨g, 0, none⟩), .int .i64 f, .int .i64 t] w fun e w' => e = .returned (.tuple #[]) ∧ ∃ own', Bld w' g s (freeM b f t) own' ∧ Stp own w own' w' := by
 obtain ⟨sv, es, hB⟩ := h
 obtain ⟨c0, c1, c2, c3, fz⟩ := hB.cells
 have hgl := hB.lt g hB.og
 obtain ⟨i0, hi, hz0, hz1, hz2⟩ := info_parts info_intP
 obtain ⟨x, hx⟩ : ∃ x, b.sts[f]? = some x := ⟨_, List.getElem?_eq_getElem hf⟩
 obtain ⟨⟨ep, ev⟩, he⟩ : ∃ e, es[f]? = some e := ⟨_, List.getElem?_eq_getElem (by rw [hB.len]; exact hf)⟩
 obtain ⟨r, cap, rfl, _, hrlt⟩ := hB.row.form (by omega)
 have hxt : x.free.length ≤ 1000000 := Nat.le_trans (free_tot b.sts x (List.mem_of_getElem? hx)) hn
 have hnl : b.sts.length ≤ 1000000 := Nat.le_trans (len_tot b.sts) hn
 obtain ⟨hr0, hr1⟩ := hB.free f x (ep, ev) hx he
 dsimp only at hr0 hr1
 obtain ⟨_, _, q2⟩ := stC_at b.sts es f x (ep, ev) hx he
 obtain ⟨cf, ff⟩ := ownsRow_cell hB.row (g := r) rfl q2
 dsimp only at cf
 have hne : ev.ownBlock ≠ some r := fun e => (hB.far f (ep, ev) r he e).2 rfl
 have hneg : ev.ownBlock ≠ some g := fun e => (hB.far f (ep, ev) g he e).1 rfl
 have hHB := Lib.hid hB
 have HR0 := Lib.hid hr0
 have HX := Lib.hid hx
 have HE := Lib.hid he
 have hfl : (f : Int) < (b.sts.length : Int) := by omega
 have hf0 : (0 : Int) ≤ (f : Int) := by omega
 clear fz hr0 hB hx he q2 c0 c1 c2
 have hba : Below w.heap.size w (w.alloc (.cells #[.int .i64 t] 3)).drew := (alloc_below w _).drew
 have hnb : (w.alloc (.cells #[.int .i64 t] 3)).drew.heap[w.heap.size]? = some (.cells #[.int .i64 t] 3 (0, 0)) := heap_alloc_new w _
 have hsz : (w.alloc (.cells #[.int .i64 t] 3)).drew.heap.size = w.heap.size + 1 := World.size_alloc w _
 have hB1 := hHB.out.kept hba.size (fun k hk => hba.block k (hHB.out.lt k hk))
 obtain ⟨hrow, _⟩ := hB1.free f x (ep, ev) HX.out HE.out
 have c3a := keep_cell c3 hba hgl
 have cfa := keep_cell cf hba hrlt
 have hone : ∀ u ∈ ([.int .i64 t] : List Value), u.oneCell' = true := by
  intro u hu; simp at hu; subst hu; rfl
 go_enter Tryz.func107, Tryz.ntmps107
 refine wp_region_heldS 18 (S := (fun W => W.cell? ⟨g, 3, none⟩ = some (.slice (some ⟨r, 0, none⟩) b.sts.length cap) ∧ W.cell? ⟨r, f * 3 + 2, none⟩ = some ev)) (by kernel_rfl) ⟨c3, cf⟩ (fun hHeld => ?_)
 refine heldS_take (i := 0) (v := ?_) rfl rfl (by kernel_rfl) (by kernel_rfl) (by kernel_rfl) (by kernel_rfl) (by kernel_rfl) (fun _ _ _ h => h) (by rfl) hHeld ?_ ?_
 rotate_left
 ·rintro wh ⟨z0, z1⟩
  go_simp
  (try with_reducible rfl)
 simp only [Act.put, List.setIfInBounds_toArray, List.set_cons_zero, List.set_cons_succ]
 refine heldS_take (i := 1) (v := ?_) rfl rfl (by kernel_rfl) (by kernel_rfl) (by kernel_rfl) (by kernel_rfl) (by kernel_rfl) (fun _ _ _ h => h) (by rfl) hHeld ?_ ?_
 rotate_left
 ·rintro wh ⟨z0, z1⟩
  go_simp
  (try with_reducible rfl)
 simp only [Act.put, List.setIfInBounds_toArray, List.set_cons_zero, List.set_cons_succ]
 refine heldS_take (i := 2) (v := ?_) rfl rfl (by kernel_rfl) (by kernel_rfl) (by kernel_rfl) (by kernel_rfl) (by kernel_rfl) (fun _ _ _ h => h) (by rfl) hHeld ?_ ?_
 rotate_left
 ·rintro wh ⟨z0, z1⟩
  go_simp
  (try with_reducible rfl)
 simp only [Act.put, List.setIfInBounds_toArray, List.set_cons_zero, List.set_cons_succ]
 refine heldS_take (i := 3) (v := ?_) rfl rfl (by kernel_rfl) (by kernel_rfl) (by kernel_rfl) (by kernel_rfl) (by kernel_rfl) (fun _ _ _ h => h) (by rfl) hHeld ?_ ?_
 rotate_left
 ·rintro wh ⟨z0, z1⟩
  go_simp
  (try with_reducible rfl)
 simp only [Act.put, List.setIfInBounds_toArray, List.set_cons_zero, List.set_cons_succ]
 refine heldS_take (i := 4) (v := ?_) rfl rfl (by kernel_rfl) (by kernel_rfl) (by kernel_rfl) (by kernel_rfl) (by kernel_rfl) (fun _ _ _ h => h) (by rfl) hHeld ?_ ?_
 rotate_left
 ·rintro wh ⟨z0, z1⟩
  go_simp
  (try with_reducible rfl)
 simp only [Act.put, List.setIfInBounds_toArray, List.set_cons_zero, List.set_cons_succ]
 refine heldS_take (i := 5) (v := ?_) rfl rfl (by kernel_rfl) (by kernel_rfl) (by kernel_rfl) (by kernel_rfl) (by kernel_rfl) (fun _ _ _ h => h) (by rfl) hHeld ?_ ?_
 rotate_left
 ·rintro wh ⟨z0, z1⟩
  go_simp
  (try with_reducible rfl)
 simp only [Act.put, List.setIfInBounds_toArray, List.set_cons_zero, List.set_cons_succ]
 refine heldS_take (i := 6) (v := ?_) rfl rfl (by kernel_rfl) (by kernel_rfl) (by kernel_rfl) (by kernel_rfl) (by kernel_rfl) (fun _ _ _ h => h) (by rfl) hHeld ?_ ?_
 rotate_left
 ·rintro wh ⟨z0, z1⟩
  go_simp
  (try with_reducible rfl)
 simp only [Act.put, List.setIfInBounds_toArray, List.set_cons_zero, List.set_cons_succ]
 refine heldS_take (i := 7) (v := ?_) rfl rfl (by kernel_rfl) (by kernel_rfl) (by kernel_rfl) (by kernel_rfl) (by kernel_rfl) (fun _ _ _ h => h) (by rfl) hHeld ?_ ?_
 rotate_left
 ·rintro wh ⟨z0, z1⟩
  go_simp
  (try with_reducible rfl)
 simp only [Act.put, List.setIfInBounds_toArray, List.set_cons_zero, List.set_cons_succ]
 refine heldS_take (i := 8) (v := ?_) rfl rfl (by kernel_rfl) (by kernel_rfl) (by kernel_rfl) (by kernel_rfl) (by kernel_rfl) (fun _ _ _ h => h) (by rfl) hHeld ?_ ?_
 rotate_left
 ·rintro wh ⟨z0, z1⟩
  go_simp
  (try with_reducible rfl)
 simp only [Act.put, List.setIfInBounds_toArray, List.set_cons_zero, List.set_cons_succ]
 refine heldS_take (i := 9) (v := ?_) rfl rfl (by kernel_rfl) (by kernel_rfl) (by kernel_rfl) (by kernel_rfl) (by kernel_rfl) (fun _ _ _ h => h) (by rfl) hHeld ?_ ?_
 rotate_left
 ·rintro wh ⟨z0, z1⟩
  go_simp
  (try with_reducible rfl)
 simp only [Act.put, List.setIfInBounds_toArray, List.set_cons_zero, List.set_cons_succ]
 refine heldS_take (i := 10) (v := ?_) rfl rfl (by kernel_rfl) (by kernel_rfl) (by kernel_rfl) (by kernel_rfl) (by kernel_rfl) (fun _ _ _ h => h) (by rfl) hHeld ?_ ?_
 rotate_left
 ·rintro wh ⟨z0, z1⟩
  go_simp
  (try with_reducible rfl)
 simp only [Act.put, List.setIfInBounds_toArray, List.set_cons_zero, List.set_cons_succ]
 refine heldS_take (i := 11) (v := ?_) rfl rfl (by kernel_rfl) (by kernel_rfl) (by kernel_rfl) (by kernel_rfl) (by kernel_rfl) (fun _ _ _ h => h) (by rfl) hHeld ?_ ?_
 rotate_left
 ·rintro wh ⟨z0, z1⟩
  go_simp
  (try with_reducible rfl)
 simp only [Act.put, List.setIfInBounds_toArray, List.set_cons_zero, List.set_cons_succ]
 refine heldS_take (i := 12) (v := ?_) rfl rfl (by kernel_rfl) (by kernel_rfl) (by kernel_rfl) (by kernel_rfl) (by kernel_rfl) (fun _ _ _ h => h) (by rfl) hHeld ?_ ?_
 rotate_left
 ·rintro wh ⟨z0, z1⟩
  go_simp
  (try with_reducible rfl)
 simp only [Act.put, List.setIfInBounds_toArray, List.set_cons_zero, List.set_cons_succ]
 refine heldS_take (i := 13) (v := ?_) rfl rfl (by kernel_rfl) (by kernel_rfl) (by kernel_rfl) (by kernel_rfl) (by kernel_rfl) (fun _ _ _ h => h) (by rfl) hHeld ?_ ?_
 rotate_left
 ·rintro wh ⟨z0, z1⟩
  go_simp
  (try with_reducible rfl)
 simp only [Act.put, List.setIfInBounds_toArray, List.set_cons_zero, List.set_cons_succ]
 refine heldS_step (i := 14) rfl (by kernel_rfl) (fun K hK => ?_)
 go_simp
 refine hK.out _ _ ⟨c3a, cfa⟩ (fun hHeld => ?_)
 clear hK K
 (try simp only [Act.put, List.setIfInBounds_toArray])
 have HB1 := Lib.hid hB1
 have HNB := Lib.hid hnb
 have HSZ := Lib.hid hsz
 have HBA := Lib.hid hba
 have FFA := Lib.hid ((hba.frozen (p := ⟨r, f * 3 + 2, none⟩) hrlt).trans ff)
 clear hB1 hnb hsz hba ff
 generalize (w.alloc (.cells #[.int .i64 t] 3)).drew = wa at *
 refine heldS_step (i := 15) rfl (by kernel_rfl) (fun K hK => ?_)
 (refine step_append_lies _ (by rfl) (.tmp 18) (.tmp 20) 136 (by rfl) 0 3 i0 (.int .i64 0) 1 8 Tryz.underlying136 hi hz0 hz1 hz2 rfl (by decide) ev x.free.length (freeC x.free) (by rfl) hrow ⟨w.heap.size, 0, none⟩ 1 1 [.int .i64 t] (by rfl) rfl (World.news_of_block HNB.out) hone (by decide) (by unfold maxLen; omega) (by omega) (Nat.zero_le _) (w.heap.size + 1) HSZ.out ?_); intro gr cp w1 hown hgrow hat hlt; have HW := Lib.hid (And.intro hown (And.intro hgrow (And.intro hat hlt))); have c3' := (hgrow.cell_far ⟨g, 3, none⟩ (Nat.lt_of_lt_of_le hgl HBA.out.size) (fun e => hneg e.symm)).trans c3a; have cf' := (hgrow.cell_far ⟨r, f * 3 + 2, none⟩ (Nat.lt_of_lt_of_le hrlt HBA.out.size) (fun e => hne e.symm)).trans cfa; have ff' := (hgrow.frozen_far ⟨r, f * 3 + 2, none⟩ (Nat.lt_of_lt_of_le hrlt HBA.out.size) (fun e => hne e.symm)).trans FFA.out; clear hown hgrow hat hlt
 refine hK.out _ _ ⟨c3', cf'⟩ (fun hHeld => ?_)
 clear hK K
 (try simp only [Act.put, List.setIfInBounds_toArray])
 refine heldS_step (i := 16) rfl (by kernel_rfl) (fun K hK => ?_)
 go_simp
 refine hK.out _ _ ⟨c3', cf'⟩ (fun hHeld => ?_)
 clear hK K
 (try simp only [Act.put, List.setIfInBounds_toArray])
 refine heldS_step (i := 17) rfl (by kernel_rfl) (fun K hK => ?_)
 go_simp
 refine hK.out _ _ ⟨c3', cf'⟩ (fun hHeld => ?_)
 clear hK K
 (try simp only [Act.put, List.setIfInBounds_toArray])
 refine heldS_last (i := 18) rfl (by kernel_rfl) (by kernel_rfl) (fun K hK => ?_)
 go_simp
 refine hK.out _ _ ?_
 clear hK K
 (try simp only [Act.put, List.setIfInBounds_toArray])
 refine wpAnyEnd_done (by kernel_rfl) ?_ _
 go_wp2
 go_end0
 obtain ⟨hown, hgrow, hat, hlt⟩ := HW.out
 refine ⟨rfl, _, ⟨_, _, HB1.out.way HX.out HE.out hgrow (k' := gr) (r := r) hown rfl (by rw [HSZ.out]; exact hat.imp id (fun h => Nat.le_of_eq h.symm)) hlt rfl⟩, ?_⟩
 refine ⟨(((Keep.of_below HBA.out).grown hgrow (fun k e => .inl (hr1 k e))).setCell (p := ⟨r, f * 3 + 2, none⟩) (HB1.out.orow r rfl).1 _), ?_⟩
 rintro k (hk | rfl)
 ·exact .inl hk
 ·rcases hat with h | h
  ·exact .inl (hr1 _ h)
  ·exact .inr (by omega)
end Go.Proofs.YtgbapkechngnmaaGreat
/- Result boxes of several cells: what is read back at the return. No program in sight. -/
namespace Go.Proofs.YtgbapkechngnmaaGreat
open Go.RowKit
theorem below_put {w W : World} {g j : Nat} {x : Value} (h : Below w.heap.size w W) (hb : w.heap.size ≤ g) : Below w.heap.size w (W.setCell ⟨g, j, none⟩ x) :=
 h.trans ((Below.refl _ _).setCell (p := ⟨g, j, none⟩) hb x)
theorem below_puts {w W : World} {g o : Nat} (h : Below w.heap.size w W) (hb : w.heap.size ≤ g) : ∀ (vs : List Value), Below w.heap.size w (W.setCells g o vs) := by
 intro vs
 induction vs generalizing W o with
 | nil => exact h
 | cons v r ih => exact ih (below_put h hb)
theorem box_there {w W : World} {xs : Array Value} {t : TypeId} (hb : Below (w.alloc (.cells xs t)).heap.size (w.alloc (.cells xs t)) W) : W.there w.heap.size 0 xs.size := by
 have hlt : w.heap.size < (w.alloc (.cells xs t)).heap.size := by rw [World.size_alloc]; omega
 have h := (hb.block _ hlt).trans (heap_alloc_new w (.cells xs t))
 intro j hj
 rw [Nat.zero_add]
 exact ⟨by simp [World.cell?, h, hj], by simp [World.frozen?, h]⟩
theorem box_range {w W : World} {xs : Array Value} {t : TypeId} (hb : Below (w.alloc (.cells xs t)).heap.size (w.alloc (.cells xs t)) W) : W.rangeAt w.heap.size 0 xs.toList := by
 obtain ⟨h, _, _⟩ := box_cells hb
 intro j v hv
 rw [Nat.zero_add]
 exact h j v (by simpa using hv)
theorem there_later {w W : World} {g n : Nat} (h : w.there g 0 n) (hb : Below w.heap.size w W) (hlt : g < w.heap.size) : W.there g 0 n := fun j hj => by
 have hk := hb.block g hlt
 obtain ⟨h1, h2⟩ := h j hj
 exact ⟨by rw [World.cell?_of_block (a := ⟨g, 0 + j, none⟩) hk]; exact h1, by rw [World.frozen?_of_block (a := ⟨g, 0 + j, none⟩) hk]; exact h2⟩
theorem range_later {w W : World} {g o : Nat} {cs : List Value} (h : w.rangeAt g o cs) (hb : Below w.heap.size w W) (hlt : g < w.heap.size) : W.rangeAt g o cs := fun j v hv => keep_cell (h j v hv) hb hlt
theorem there_free {w : World} {g n : Nat} (h : w.there g 0 n) (j : Nat) (hj : j < n) : w.frozen? ⟨g, j, none⟩ = false := by have := (h j hj).2; rwa [Nat.zero_add] at this
theorem results_agg2 {P : Program} {fn : Func} {p u : Tmp} {ty : TypeId} (h : fn.results = #[.cell p ty, .tmp u]) (tmps : Array Value) (w : World) (g : Nat) (cs : List Value) (d : TypeDesc)
  (hp : tmps.getD p undef = .pointer (some ⟨g, 0, none⟩)) (hc : w.rangeAt g 0 cs) (hu : P.underlying ty = some d) (hd : d.isRow = true) (hi : (P.info? ty).map (·.size) = some cs.length) :
  (results fn tmps).run P w = .ok (.tuple #[.agg cs.toArray, tmps.getD u undef]) w := by
 rw [results_cell_tmp h, hp]
 simp [asAddr, Result.andThen, run_loadVar_mid (P := P) w g 0 ty cs d hc hu hd hi]
theorem results_agg1 {P : Program} {fn : Func} {p : Tmp} {ty : TypeId} (h : fn.results = #[.cell p ty]) (tmps : Array Value) (w : World) (g : Nat) (cs : List Value) (d : TypeDesc)
  (hp : tmps.getD p undef = .pointer (some ⟨g, 0, none⟩)) (hc : w.rangeAt g 0 cs) (hu : P.underlying ty = some d) (hd : d.isRow = true) (hi : (P.info? ty).map (·.size) = some cs.length) :
  (results fn tmps).run P w = .ok (.agg cs.toArray) w := by
 have hp' : tmps[p]?.getD undef = .pointer (some ⟨g, 0, none⟩) := by simpa using hp
 simp [results, h, hp', asAddr, run_loadVar_mid (P := P) w g 0 ty cs d hc hu hd hi]
end Go.Proofs.YtgbapkechngnmaaGreat
/- Regions that draw their order, taken by hand: two operations are ready. No program in sight. -/
namespace Go
variable {P : Program} {ops : Array Oper} {Q : Exit → Act → World → Prop} {md : Region.Mode} {S : World → Prop}
end Go
namespace Go.Proofs.YtgbapkechngnmaaGreat
open Go.RowKit
theorem c6_out {w : World} {p g : Nat} {a b c d e f : Value} (h : C6 p a b c d e f w) (hg : p ≠ g) (o : Nat) (vs : List Value) : C6 p a b c d e f (w.setCells g o vs) := by
 obtain ⟨h0, h1, h2, h3, h4, h5⟩ := h
 refine ⟨?_, ?_, ?_, ?_, ?_, ?_⟩ <;> (rw [World.cell?_setCells_out _ _ _ _ _ (fun hb _ => absurd hb hg)]; assumption)
end Go.Proofs.YtgbapkechngnmaaGreat
/- pattern's builder: a state's bytes: the plain part, and one's walk. -/
namespace Go.Proofs.YtgbapkechngnmaaGreat
open Go.RowKit
theorem stC_set01 : ∀ (l : List St) (m : List (Value × Value)) (i : Nat) (x : St) (e : Value × Value) (v : Value) (S : Option (Nat → Bool)) (n : Nat), l[i]? = some x → m[i]? = some e →
  ((stC l m).set (i * 3) v).set (i * 3 + 1) (.int .i64 n) = stC (l.set i ⟨S, n, x.free⟩) (m.set i (v, e.2))
 | [], _, _, _, _, _, _, _, h, _ => by simp at h
 | _ :: _, [], _, _, _, _, _, _, _, h => by simp at h
 | y :: l, d :: m, 0, x, e, v, S, n, h, h' => by simp at h h'; subst h h'; rfl
 | y :: l, d :: m, i + 1, x, e, v, S, n, h, h' => by
  have := stC_set01 l m i x e v S n (by simpa using h) (by simpa using h')
  rw [show (i + 1) * 3 + 1 = (i * 3 + 1) + 3 by omega, show (i + 1) * 3 = (i * 3) + 3 by omega]
  simp [stC, this]
theorem BldV.bytes {w : World} {g : Nat} {s : ByteArray} {b : Bs} {own : Nat → Prop} {sv : Value} {es : List (Value × Value)} (h : BldV w g s b own sv es) {f n : Nat} {x : St} {e : Value × Value} (hx : b.sts[f]? = some x) (he : es[f]? = some e)
  {k r : Nat} {S : Nat → Bool} (hS : SetAt w k S) (hk : ¬ own k) (hsv : sv.ownBlock = some r) :
  BldV ((w.setCell ⟨r, f * 3, none⟩ (.pointer (some ⟨k, 0, none⟩))).setCell ⟨r, f * 3 + 1, none⟩ (.int .i64 n)) g s { b with sts := b.sts.set f ⟨some S, n, x.free⟩ } (fun j => own j ∨ j = k) sv (es.set f (.pointer (some ⟨k, 0, none⟩), e.2)) := by
 obtain ⟨hr1, hr2⟩ := h.orow r hsv
 have hkr : k ≠ r := fun e => hk (e ▸ hr1)
 have hkg : k ≠ g := fun e => hk (e ▸ h.og)
 have hold : ∀ j, j ≠ r → ((w.setCell ⟨r, f * 3, none⟩ (.pointer (some ⟨k, 0, none⟩))).setCell ⟨r, f * 3 + 1, none⟩ (.int .i64 n)).heap[j]? = w.heap[j]? := fun j hj =>
  (heap_setCell_other _ _ _ _ hj).trans (heap_setCell_other _ _ _ _ hj)
 have hsz : ((w.setCell ⟨r, f * 3, none⟩ (.pointer (some ⟨k, 0, none⟩))).setCell ⟨r, f * 3 + 1, none⟩ (.int .i64 n)).heap.size = w.heap.size := by simp
 have xget : ∀ (i : Nat) (d : Value × Value), es[i]? = some d → ∃ y, b.sts[i]? = some y := fun i d hd => ⟨_, List.getElem?_eq_getElem (by rw [← h.len]; exact (List.getElem?_eq_some_iff.1 hd).1)⟩
 have nown : ∀ (i : Nat) (d : Value × Value) (j : Nat), es[i]? = some d → d.2.ownBlock = some j → j ≠ r := fun i d j hd hj e' => (h.far i d j hd hj).2 (e' ▸ hsv)
 refine ⟨(hold g (fun e => hr2 e.symm)).trans h.blk, .inl h.og, ?_, ?_, ?_, ?_, ?_, ?_, ?_, ?_, ?_⟩
 ·rintro j (hj | rfl)
  ·rw [hsz]; exact h.lt j hj
  ·rw [hsz]; exact hS.lt
 ·simp [h.len]
 ·dsimp only
  rw [List.length_set, ← stC_set01 b.sts es f x e _ (some S) n hx he]
  exact ownsRow_set (ownsRow_set h.row hsv _) hsv _
 ·intro j e'
  obtain ⟨h1, h2⟩ := h.orow j e'
  exact ⟨.inl h1, h2⟩
 ·intro i y d hy hd
  dsimp only at hy
  rcases get_set hd with ⟨hi, hd1⟩ | ⟨hi, hd1⟩
  ·rcases get_set hy with ⟨_, hy1⟩ | ⟨hi', _⟩
   ·subst hd1 hy1
    exact ⟨k, rfl, hS.blk (hold k hkr), .inr rfl⟩
   ·exact absurd hi hi'
  ·rcases get_set hy with ⟨hi', _⟩ | ⟨_, hy1⟩
   ·exact absurd hi' hi
   ·have hp := h.ptr i y d hy1 hd1
    exact (hp.kept (fun j hv => hold j (fun e' => (h.pfar i d j hd1 hv).2.1 (e' ▸ hsv)))).mono (fun j hj => .inl hj)
 ·intro i y d hy hd
  dsimp only at hy
  have key : ∀ y' (d' : Value × Value), b.sts[i]? = some y' → es[i]? = some d' → y.free = y'.free → d.2 = d'.2 → FreeAt ((w.setCell ⟨r, f * 3, none⟩ (.pointer (some ⟨k, 0, none⟩))).setCell ⟨r, f * 3 + 1, none⟩ (.int .i64 n)) (fun j => own j ∨ j = k) y d.2 := by
   intro y' d' hy' hd' e1 e2
   obtain ⟨h1, h2⟩ := h.free i y' d' hy' hd'
   unfold FreeAt
   rw [e1, e2]
   exact ⟨ownsRow_blk h1 (fun j hj => hold j (nown i d' j hd' hj)), fun j hj => .inl (h2 j hj)⟩
  rcases get_set hd with ⟨hi, hd1⟩ | ⟨hi, hd1⟩
  ·rcases get_set hy with ⟨_, hy1⟩ | ⟨hi', _⟩
   ·subst hi
    exact key x e hx he (by rw [hy1]) (by rw [hd1])
   ·exact absurd hi hi'
  ·rcases get_set hy with ⟨hi', _⟩ | ⟨_, hy1⟩
   ·exact absurd hi' hi
   ·exact key y d hy1 hd1 rfl rfl
 ·intro i d j hd hj
  rcases get_set hd with ⟨hi, hd1⟩ | ⟨hi, hd1⟩
  ·subst hi hd1
   exact h.far i e j he hj
  ·exact h.far i d j hd1 hj
 ·intro i d j hd hj
  have free' : ∀ (j : Nat), (∀ (i : Nat) (d : Value × Value), es[i]? = some d → d.2.ownBlock ≠ some j) → ∀ (i : Nat) (d : Value × Value), (es.set f (.pointer (some ⟨k, 0, none⟩), e.2))[i]? = some d → d.2.ownBlock ≠ some j := by
   intro j hj i d hd
   rcases get_set hd with ⟨_, hd1⟩ | ⟨_, hd1⟩
   ·rw [hd1]; exact hj f e he
   ·exact hj i d hd1
  rcases get_set hd with ⟨hi, hd1⟩ | ⟨hi, hd1⟩
  ·rw [hd1] at hj
   simp at hj
   subst hj
   refine ⟨hkg, fun e' => hk (h.orow k e').1, free' k ?_⟩
   intro i d hd hj
   obtain ⟨y, hy⟩ := xget i d hd
   exact hk ((h.free i y d hy hd).2 k hj)
  ·obtain ⟨h1, h2, h3⟩ := h.pfar i d j hd1 hj
   exact ⟨h1, h2, free' j h3⟩
 ·intro i j d d' q hd hd' hq hq'
  rcases get_set hd with ⟨hi, hd1⟩ | ⟨hi, hd1⟩
  ·rcases get_set hd' with ⟨hj, hd1'⟩ | ⟨hj, hd1'⟩
   ·rw [hi, hj]
   ·rw [hd1] at hq
    rw [hi]
    exact h.apart f j e d' q he hd1' hq hq'
  ·rcases get_set hd' with ⟨hj, hd1'⟩ | ⟨hj, hd1'⟩
   ·rw [hd1'] at hq'
    rw [hj]
    exact h.apart i f d e q hd1 he hq hq'
   ·exact h.apart i j d d' q hd1 hd1' hq hq'
theorem blk_there {w : World} {k : Nat} {cs : Array Value} {t : TypeId} (h : w.heap[k]? = some (.cells cs t (0, 0))) : w.there k 0 cs.size := by
 intro j hj
 rw [Nat.zero_add]
 exact ⟨by simp [World.cell?, h, hj], by simp [World.frozen?, h]⟩
theorem part_there {w : World} {k : Nat} {x y : Value} {t : TypeId} (h : w.heap[k]? = some (.cells #[x, y] t (0, 0))) : w.there k 0 2 := blk_there h
set_option maxHeartbeats 3200000 in
set_option maxRecDepth 100000 in
theorem one_is (w : World) (g : Nat) (s : ByteArray) (b : Bs) (own : Nat → Prop) (S : Nat → Bool) (k : Nat) (h : Bld w g s b own) (hS : SetAt w k S) (hk : ¬ own k) (hn : b.sts.length + 1 ≤ 1000000) :
  Calls Tryz.prog 142 #[.pointer (some ⟨g, 0, none⟩), .pointer (some ⟨k, 0, none⟩)] w fun e w' => e = .returned (.agg #[.int .i64 b.sts.length, .int .i64 ((b.sts.length + 1 : Nat) : Int)]) ∧
   ∃ own', Bld w' g s (oneM b S).1 own' ∧ Keep own w w' ∧ ∀ j, own' j → own j ∨ j = k ∨ w.heap.size ≤ j := by
 have hba := alloc_below w (.cells #[.int .i64 0, .int .i64 0] 132)
 have hnb : (w.alloc (.cells #[.int .i64 0, .int .i64 0] 132)).heap[w.heap.size]? = some (.cells #[.int .i64 0, .int .i64 0] 132 (0, 0)) := heap_alloc_new _ _
 have hno : ¬ own w.heap.size := fun h0 => by have := h.lt _ h0; omega
 have hB0 := h.below hba
 have hS0 := hS.blk (w' := w.alloc (.cells #[.int .i64 0, .int .i64 0] 132)) (hba.block k hS.lt)
 have k1 := node_is _ g s b own hB0 (by omega)
 have HBA := Lib.hid hba
 have HNB := Lib.hid hnb
 clear hB0 hba hnb h
 go_enter Tryz.func142, Tryz.ntmps142
 go_upto_region 1 with fail
 change Code.wp _ _ _ _ (w.alloc (.cells #[.int .i64 0, .int .i64 0] 132))
 generalize w.alloc (.cells #[.int .i64 0, .int .i64 0] 132) = w0 at *
 go_wp2_with fail
 refine k1.mono ?_
 rintro e w1 ⟨rfl, own1, hB1, hst1⟩
 have k2 := node_is _ g s (nodeM b) own1 hB1 (by simp [nodeM]; omega)
 have HST1 := Lib.hid hst1
 clear k1 hB1 hst1
 go_wp2_with fail
 refine k2.mono ?_
 rintro e w2 ⟨rfl, own2, hB2, hst2⟩
 have HST := Lib.hid (HST1.out.trans hst2)
 have HB2 := Lib.hid hB2
 clear k2 hB2 hst2 HST1
 have hl1 : (nodeM b).sts.length = b.sts.length + 1 := by simp [nodeM]
 rw [hl1]
 obtain ⟨n, hnn⟩ : ∃ n, b.sts.length = n := ⟨_, rfl⟩
 have HNN := Lib.hid hnn
 rw [hnn] at hl1 hn ⊢
 have HL2 : Hid ((nodeM (nodeM b)).sts.length = n + 2) := Lib.hid (by show _ = _; rw [← hnn]; simp [nodeM])
 have hsts : (nodeM (nodeM b)).sts = b.sts ++ [⟨none, 0, []⟩] ++ [⟨none, 0, []⟩] := rfl
 have hxn : (nodeM (nodeM b)).sts[n]? = some ⟨none, 0, []⟩ := by rw [hsts, ← hnn]; simp
 obtain ⟨sv, es, hV⟩ := HB2.out
 have HV := Lib.hid hV
 obtain ⟨e0, he0⟩ : ∃ e, es[n]? = some e := ⟨_, List.getElem?_eq_getElem (by rw [hV.len, HL2.out]; omega)⟩
 obtain ⟨r, cap, rfl, _, hrlt⟩ := hV.row.form (by rw [HL2.out]; omega)
 obtain ⟨q0, q1, _⟩ := stC_at _ es n _ e0 hxn he0
 obtain ⟨cf0, ff0⟩ := ownsRow_cell hV.row (g := r) rfl q0
 obtain ⟨cf1, ff1⟩ := ownsRow_cell hV.row (g := r) rfl q1
 dsimp only at cf0 cf1
 have c3 := hV.cells.2.2.2.1
 have hgl := hV.lt g hV.og
 rw [HL2.out] at c3
 have HXN := Lib.hid hxn
 have HE0 := Lib.hid he0
 have hn0 : (0 : Int) ≤ (n : Int) := by omega
 have hn1 : (n : Int) < (n : Int) + 2 := by omega
 clear hV q0 q1 hxn he0 hsts hnn hl1
 go_upto_region 2 with fail
 change Code.wp _ _ _ _ (w2.alloc (.cells #[.int .i64 n, .int .i64 ((n + 1 : Nat) : Int)] 132))
 have hb3 := alloc_below w2 (.cells #[.int .i64 n, .int .i64 ((n + 1 : Nat) : Int)] 132)
 have hp3 : (w2.alloc (.cells #[.int .i64 n, .int .i64 ((n + 1 : Nat) : Int)] 132)).heap[w2.heap.size]? = some (.cells #[.int .i64 n, .int .i64 ((n + 1 : Nat) : Int)] 132 (0, 0)) := heap_alloc_new _ _
 generalize w2.alloc (.cells #[.int .i64 n, .int .i64 ((n + 1 : Nat) : Int)] 132) = w3 at *
 have hd3 := hb3.drew
 have hpd : w3.drew.heap[w2.heap.size]? = some (.cells #[.int .i64 n, .int .i64 ((n + 1 : Nat) : Int)] 132 (0, 0)) := hp3
 have c3 := keep_cell c3 hd3 hgl
 have cf0 := keep_cell cf0 hd3 hrlt
 have cf1 := keep_cell cf1 hd3 hrlt
 have ff0 := (hd3.frozen (p := ⟨r, n * 3, none⟩) hrlt).trans ff0
 have ff1 := (hd3.frozen (p := ⟨r, n * 3 + 1, none⟩) hrlt).trans ff1
 have p0 : w3.drew.cell? ⟨w2.heap.size, 0, none⟩ = some (.int .i64 n) := by rw [cell_of_row _ _ _ _ _ _ hpd]; rfl
 have p1 : w3.drew.cell? ⟨w2.heap.size, 1, none⟩ = some (.int .i64 ((n + 1 : Nat) : Int)) := by rw [cell_of_row _ _ _ _ _ _ hpd]; rfl
 have HVD := Lib.hid (HV.out.kept hd3.size (fun j hj => hd3.block j (HV.out.lt j hj)))
 have hk2 : ¬ own2 k := HST.out.not hS0.lt hk
 have hS2 := (hS0.blk (w' := w2) (HST.out.1.block k hS0.lt hk))
 have HSD := Lib.hid (hS2.blk (w' := w3.drew) (hd3.block k hS2.lt))
 have hrl0 : w.heap.size < w0.heap.size := (Array.getElem?_eq_some_iff.1 HNB.out).1
 have hnr2 : ¬ own2 w.heap.size := HST.out.not hrl0 hno
 have hrb2 := HST.out.blk HNB.out hno
 have hrb3 : w3.drew.heap[w.heap.size]? = some (.cells #[.int .i64 0, .int .i64 0] 132 (0, 0)) := (hd3.block _ (Nat.lt_of_lt_of_le hrl0 HST.out.1.size)).trans hrb2
 have hKP : Keep own w w3.drew := ((Keep.of_below HBA.out).trans HST.out.1 (fun j hj => .inl hj)).trans (Keep.of_below (own := own) hd3) (fun j hj => .inl hj)
 have HKP := Lib.hid hKP
 have hrw : w.heap.size ≠ r := fun e => hnr2 (e ▸ (HV.out.orow r rfl).1)
 have HRB := Lib.hid hrb3
 have hown2 : ∀ j, own2 j → own j ∨ w.heap.size ≤ j := fun j hj => (HST.out.2 j hj).imp id (fun h => Nat.le_trans HBA.out.size h)
 have HR2 := Lib.hid (hown2 r (HV.out.orow r rfl).1)
 have HOWN := Lib.hid hown2
 clear hrb2 hrb3 hS2 hS0 hKP hown2 hrl0
 have hrp : r ≠ w2.heap.size := by omega
 have hrg : r ≠ g := (HV.out.orow r rfl).2
 clear hb3 hp3 hpd hd3
 generalize w2.heap.size = pb at *
 refine wp_region_held_drew (S := (fun W => W.cell? ⟨g, 3, none⟩ = some (.slice (some ⟨r, 0, none⟩) (n + 2) cap) ∧ W.cell? ⟨pb, 0, none⟩ = some (.int .i64 n) ∧ W.cell? ⟨pb, 1, none⟩ = some (.int .i64 ((n + 1 : Nat) : Int)))) (by kernel_rfl) ⟨c3, p0, p1⟩ (fun hHeld => ?_)
 generalize w3.drew = wd at *
 refine plIn [0, 1, 2, 3, 4, 5, 6, 7, 8, 9, 10, 11, 12, 13, 14, 15, 16] ?_
 iterate 17
  refine hP (v := ?_) rfl rfl hHeld ?_ ?_
  rotate_left
  ·rintro wh ⟨z0, z1, z2⟩
   go_simp
   (try with_reducible rfl)
  simp only [Act.put, List.setIfInBounds_toArray, List.set_cons_zero, List.set_cons_succ]
 refine plOut ?_
 refine held_step (i := 17) rfl (by kernel_rfl) (fun K hK => ?_)
 go_simp
 refine hK.out _ _ ⟨(World.cell?_setCell_far wd ⟨r, n * 3, none⟩ _ (.pointer (some ⟨k, 0, none⟩)) hrg).trans c3, (World.cell?_setCell_far wd ⟨r, n * 3, none⟩ _ (.pointer (some ⟨k, 0, none⟩)) hrp).trans p0, (World.cell?_setCell_far wd ⟨r, n * 3, none⟩ _ (.pointer (some ⟨k, 0, none⟩)) hrp).trans p1⟩ (fun hHeld => ?_)
 clear hK K
 (try simp only [Act.put, List.setIfInBounds_toArray])
 refine plIn [18, 19] ?_
 iterate 2
  refine hP (v := ?_) rfl rfl hHeld ?_ ?_
  rotate_left
  ·rintro wh ⟨z0, z1, z2⟩
   go_simp
   (try with_reducible rfl)
  simp only [Act.put, List.setIfInBounds_toArray, List.set_cons_zero, List.set_cons_succ]
 refine plOut ?_
 refine held_step (i := 20) rfl (by kernel_rfl) (fun K hK => ?_)
 go_simp
 refine hK.out _ _ ⟨(World.cell?_setCell_far _ ⟨r, n * 3 + 1, none⟩ _ (.int .i64 ((n + 1 : Nat) : Int)) hrg).trans hHeld.1, (World.cell?_setCell_far _ ⟨r, n * 3 + 1, none⟩ _ (.int .i64 ((n + 1 : Nat) : Int)) hrp).trans hHeld.2.1, (World.cell?_setCell_far _ ⟨r, n * 3 + 1, none⟩ _ (.int .i64 ((n + 1 : Nat) : Int)) hrp).trans hHeld.2.2⟩ (fun hHeld => ?_)
 clear hK K
 (try simp only [Act.put, List.setIfInBounds_toArray])
 refine wpAnyH_done (by kernel_rfl) ?_ _
 clear hHeld
 have hW4 := HVD.out.bytes (f := n) (n := n + 1) HXN.out HE0.out HSD.out hk2 (r := r) rfl
 have HW4 := Lib.hid hW4
 have hkp4 : Keep own w ((wd.setCell ⟨r, n * 3, none⟩ (.pointer (some ⟨k, 0, none⟩))).setCell ⟨r, n * 3 + 1, none⟩ (.int .i64 ((n + 1 : Nat) : Int))) := by
  have hk : ∀ (W : World) (a : Addr) (v : Value), Keep own w W → a.block = r → Keep own w (W.setCell a v) := fun W a v h e =>
   ⟨h.os, h.tape, h.output, by simpa using h.size, fun j hj hn => (heap_setCell_other W a j v (fun e' => by rcases HR2.out with h1 | h1; (· exact hn (by rw [e', e]; exact h1)); (· omega))).trans (h.block j hj hn)⟩
  exact hk _ _ _ (hk _ _ _ HKP.out rfl) rfl
 have hrb4 : ((wd.setCell ⟨r, n * 3, none⟩ (.pointer (some ⟨k, 0, none⟩))).setCell ⟨r, n * 3 + 1, none⟩ (.int .i64 ((n + 1 : Nat) : Int))).heap[w.heap.size]? = some (.cells #[.int .i64 0, .int .i64 0] 132 (0, 0)) :=
  ((heap_setCell_other _ _ _ _ hrw).trans (heap_setCell_other _ _ _ _ hrw)).trans HRB.out
 have p0 : ((wd.setCell ⟨r, n * 3, none⟩ (.pointer (some ⟨k, 0, none⟩))).setCell ⟨r, n * 3 + 1, none⟩ (.int .i64 ((n + 1 : Nat) : Int))).cell? ⟨pb, 0, none⟩ = some (.int .i64 n) := (World.cell?_setCell_far _ _ _ _ hrp).trans ((World.cell?_setCell_far _ _ _ _ hrp).trans p0)
 have p1 : ((wd.setCell ⟨r, n * 3, none⟩ (.pointer (some ⟨k, 0, none⟩))).setCell ⟨r, n * 3 + 1, none⟩ (.int .i64 ((n + 1 : Nat) : Int))).cell? ⟨pb, 1, none⟩ = some (.int .i64 ((n + 1 : Nat) : Int)) := (World.cell?_setCell_far _ _ _ _ hrp).trans ((World.cell?_setCell_far _ _ _ _ hrp).trans p1)
 change Exit.then _ _ Exit.normal _ ((wd.setCell ⟨r, n * 3, none⟩ (.pointer (some ⟨k, 0, none⟩))).setCell ⟨r, n * 3 + 1, none⟩ (.int .i64 ((n + 1 : Nat) : Int)))
 clear hW4 c3 cf0 cf1 ff0 ff1
 generalize (wd.setCell ⟨r, n * 3, none⟩ (.pointer (some ⟨k, 0, none⟩))).setCell ⟨r, n * 3 + 1, none⟩ (.int .i64 ((n + 1 : Nat) : Int)) = w4 at *
 have r0 : w4.cell? ⟨w.heap.size, 0, none⟩ = some (.int .i64 0) := by rw [cell_of_row _ _ _ _ _ _ hrb4]; rfl
 have r1 : w4.cell? ⟨w.heap.size, 1, none⟩ = some (.int .i64 0) := by rw [cell_of_row _ _ _ _ _ _ hrb4]; rfl
 have rf0 := frozen_of_row w4 w.heap.size 0 _ _ hrb4
 have rf1 := frozen_of_row w4 w.heap.size 1 _ _ hrb4
 have HRB4 := Lib.hid hrb4
 have HKP4 := Lib.hid hkp4
 clear hrb4 hkp4
 go_wp2
 refine bodyPost_ret (results_agg1 rfl _ _ w.heap.size [.int .i64 n, .int .i64 ((n + 1 : Nat) : Int)] (.struct _) rfl (World.rangeAt_setCells_same w4 w.heap.size 0 [.int .i64 n, .int .i64 ((n + 1 : Nat) : Int)] (part_there HRB4.out)) Tryz.underlying132 rfl (by kernel_rfl)) rfl ?_
 have hne : ¬ (own2 w.heap.size ∨ w.heap.size = k) := fun h0 => by
  rcases h0 with h0 | h0
  ·exact hnr2 h0
  ·have := hS.lt; omega
 refine ⟨by rw [← HNN.out]; rfl, (fun j => own2 j ∨ j = k), ?_, ?_, ?_⟩
 ·have h5 : Bld w4 g s { nodeM (nodeM b) with sts := (nodeM (nodeM b)).sts.set n ⟨some S, n + 1, []⟩ } (fun j => own2 j ∨ j = k) := ⟨_, _, HW4.out⟩
  have h6 := (h5.box (p := ⟨w.heap.size, 0, none⟩) hne (.int .i64 n)).box (p := ⟨w.heap.size, 1, none⟩) hne (.int .i64 ((n + 1 : Nat) : Int))
  have e : (oneM b S).1 = { nodeM (nodeM b) with sts := (nodeM (nodeM b)).sts.set n ⟨some S, n + 1, []⟩ } := by
   rw [← HNN.out]
   simp [oneM, nodeM]
  rw [e]
  exact h6
 ·have hk : ∀ (W : World) (j : Nat) (v : Value), Keep own w W → Keep own w (W.setCell ⟨w.heap.size, j, none⟩ v) := fun W j v h =>
   ⟨h.os, h.tape, h.output, by simpa using h.size, fun i hi hn => (heap_setCell_other W _ i v (by simp; omega)).trans (h.block i hi hn)⟩
  exact hk _ _ _ (hk _ _ _ HKP4.out)
 ·rintro j (hj | rfl)
  ·rcases HOWN.out j hj with h1 | h1
   ·exact .inl h1
   ·exact .inr (.inr h1)
  ·exact .inr (.inl rfl)
end Go.Proofs.YtgbapkechngnmaaGreat
/- pattern's sets of bytes: add, turn, has: contracts. -/
namespace Go.Proofs.YtgbapkechngnmaaGreat
open Go.RowKit
theorem and63 : ∀ c : Nat, c < 256 → bits BinOp.and IntKind.i64 (c : Int) 63 = ((c % 64 : Nat) : Int) := by decide +kernel
theorem bits_or64 (x m : Nat) (hx : x < 18446744073709551616) (hm : m < 64) : bits BinOp.or IntKind.u64 (x : Int) (IntKind.u64.wrap (2 ^ m)) = ((x ||| 2 ^ m : Nat) : Int) := by
 have h2 : 2 ^ m < 2 ^ 64 := Nat.pow_lt_pow_right (by decide) hm
 have hw : IntKind.u64.wrap (2 ^ m) = ((2 ^ m : Nat) : Int) := by
  have : ((2 : Int) ^ m) = ((2 ^ m : Nat) : Int) := by simp
  rw [IntKind.wrap_u64, this]
  generalize 2 ^ m = p at *
  omega
 rw [hw]
 show IntKind.u64.wrap ((BitVec.ofInt 64 (x : Int) ||| BitVec.ofInt 64 ((2 ^ m : Nat) : Int)).toNat : Int) = _
 rw [BitVec.ofInt_natCast, BitVec.ofInt_natCast, IntKind.wrap_u64]
 have h3 := (BitVec.ofNat 64 x ||| BitVec.ofNat 64 (2 ^ m)).isLt
 have h4 : (BitVec.ofNat 64 x ||| BitVec.ofNat 64 (2 ^ m)).toNat = x ||| 2 ^ m := by
  rw [BitVec.toNat_or, BitVec.toNat_ofNat, BitVec.toNat_ofNat, Nat.mod_eq_of_lt hx, Nat.mod_eq_of_lt h2]
 rw [h4] at h3 ⊢
 omega
theorem words_add {f : Nat → Bool} {ws : List Nat} {c : Nat} (h : WordsOf f ws) (hc : c < 256) (x : Nat) (hx : ws.getD (c / 64) 0 = x) : WordsOf (fun j => f j || decide (j = c)) (ws.set (c / 64) (x ||| 2 ^ (c % 64))) := by
 obtain ⟨h1, h2, h3⟩ := h
 have hl : c / 64 < ws.length := by omega
 have hx' : ws[c / 64] = x := by rw [← hx, List.getD_eq_getElem?_getD, List.getElem?_eq_getElem hl]; rfl
 refine ⟨by rw [List.length_set]; exact h1, ?_, ?_⟩
 ·intro y hy
  rcases List.mem_or_eq_of_mem_set hy with h | rfl
  ·exact h2 y h
  ·have hxl := h2 x (hx' ▸ List.getElem_mem hl)
   have h2' : 2 ^ (c % 64) < 2 ^ 64 := Nat.pow_lt_pow_right (by decide) (Nat.mod_lt _ (by decide))
   exact Nat.or_lt_two_pow (n := 64) hxl h2'
 ·intro j hj
  have h3j := h3 j hj
  dsimp only
  rw [← h3j, List.getD_eq_getElem?_getD, List.getElem?_set, List.getD_eq_getElem?_getD]
  by_cases he : c / 64 = j / 64
  ·rw [if_pos he, if_pos hl, Option.getD_some, ← he, List.getElem?_eq_getElem hl, Option.getD_some, hx', Nat.testBit_or, Nat.testBit_two_pow]
   congr 1
   rw [Bool.eq_iff_iff, decide_eq_true_eq, decide_eq_true_eq]
   omega
  ·rw [if_neg he, decide_eq_false (fun e => he (by rw [e])), Bool.or_false]
theorem SetAt.congr {w : World} {k : Nat} {f f' : Nat → Bool} (h : SetAt w k f) (hf : ∀ c, c < 256 → f c = f' c) : SetAt w k f' := by
 obtain ⟨ws, ⟨h1, h2, h3⟩, h4⟩ := h
 exact ⟨ws, ⟨h1, h2, fun c hc => (h3 c hc).trans (hf c hc)⟩, h4⟩
set_option maxHeartbeats 3200000 in
set_option maxRecDepth 100000 in
theorem add_is (w : World) (k : Nat) (f : Nat → Bool) (lo hi : Nat) (h : SetAt w k f) (hlo : lo < 256) (hhi : hi < 256) :
  Calls Tryz.prog 141 #[.pointer (some ⟨k, 0, none⟩), .int .u8 lo, .int .u8 hi] w fun e w' => e = .returned (.tuple #[]) ∧ SetAt w' k (addS f lo hi) ∧ Keep (fun j => j = k) w w' := by
 have HS := Lib.hid h
 clear h
 go_enter Tryz.func141, Tryz.ntmps141
 go_wp2
 go_loopw [6] (fun i wr => ∃ c : Nat, lo ≤ c ∧ c ≤ max lo (hi + 1) ∧ i = .int .i64 c ∧ Hid (SetAt wr k (fun x => f x || (decide (lo ≤ x) && decide (x < c)))) ∧ Keep (fun j => j = k) w wr) (fun i _ => 256 - (intOf i).toNat)
 case atStart =>
  exact ⟨lo, Nat.le_refl _, by omega, rfl, Lib.hid (HS.out.congr (fun c _ => by by_cases hc : lo ≤ c <;> simp [hc]; exact fun h => absurd h (by omega))), Keep.refl _ _⟩
 case round =>
  obtain ⟨c, hc1, hc2, rfl, HC, hk⟩ := hrel
  by_cases hch : c ≤ hi
  ·obtain ⟨ws, ⟨hw1, hw2, hw3⟩, hb⟩ := HC.out
   go_wp2
   have hwl : c / 64 < ws.length := by omega
   obtain ⟨x, hx⟩ : ∃ x, ws[c / 64] = x := ⟨_, rfl⟩
   have hcell : wr.cell? ⟨k, c / 64, none⟩ = some (.int .u64 x) := by
    rw [cell_of_row _ _ _ _ _ _ hb, List.getElem?_toArray, List.getElem?_map, List.getElem?_eq_getElem hwl, hx]; rfl
   have hfz := frozen_of_row wr k (c / 64) _ _ hb
   have hi0 : (0 : Int) ≤ (c : Int) / 64 := by omega
   have hi4 : (c : Int) / 64 < 4 := by omega
   have hnat : ((c : Int) / 64).toNat = c / 64 := by omega
   have hand := and63 c (by omega)
   obtain ⟨m, hm⟩ : ∃ m, c % 64 = m := ⟨_, rfl⟩
   rw [hm] at hand
   have hm64 : m < 64 := by omega
   have HM := Lib.hid hm
   clear hm
   have hxl : x < 18446744073709551616 := hw2 x (hx ▸ List.getElem_mem hwl)
   have hor := bits_or64 x m hxl hm64
   obtain ⟨y, hy⟩ : ∃ y, x ||| 2 ^ m = y := ⟨_, rfl⟩
   rw [hy] at hor
   have HN : Hid (SetAt (wr.drew.setCell ⟨k, c / 64, none⟩ (.int .u64 y)) k (fun x => f x || (decide (lo ≤ x) && decide (x < c + 1)))) := Lib.hid (by
    have hw := words_add ⟨hw1, hw2, hw3⟩ (c := c) (by omega) x (by rw [List.getD_eq_getElem?_getD, List.getElem?_eq_getElem hwl, hx]; rfl)
    rw [HM.out, hy] at hw
    refine SetAt.congr ⟨_, hw, ?_⟩ ?_
    ·rw [heap_setCell_same wr.drew k (c / 64) _ _ _ hb, List.setIfInBounds_toArray, List.map_set]
    ·intro j _
     rw [Bool.eq_iff_iff]
     simp only [Bool.or_eq_true, Bool.and_eq_true, decide_eq_true_eq]
     by_cases hf : f j = true
     ·simp [hf]
     ·simp [hf]; omega)
   have hkk := (hk.drew).setCell (p := ⟨k, c / 64, none⟩) rfl (.int .u64 y)
   clear hy hxl hb hw2 hw3 hx
   go_still_tail 12, (by kernel_rfl)
   change wpList _ _ _ _ _ wr.drew
   have hcd : wr.drew.cell? ⟨k, c / 64, none⟩ = some (.int .u64 x) := hcell
   have hfd : wr.drew.frozen? ⟨k, c / 64, none⟩ = false := hfz
   clear hcell hfz HC hk
   generalize wr.drew = wd at *
   go_wp2
   go_roundw
   case rel => exact ⟨c + 1, by omega, by omega, by go_num, HN, hkk⟩
   case measure => simp [intOf]; omega
  ·go_wp2
   go_end0
   refine ⟨rfl, HC.out.congr (fun x _ => ?_), hk⟩
   unfold addS
   congr 1
   rw [Bool.eq_iff_iff]
   simp only [Bool.and_eq_true, decide_eq_true_eq]
   omega
theorem bits_xor64 (x : Nat) (hx : x < 18446744073709551616) : bits BinOp.xor IntKind.u64 (if IntKind.u64.signed = true then -1 else IntKind.u64.max) (x : Int) = ((18446744073709551615 - x : Nat) : Int) := by
 have e : (if IntKind.u64.signed = true then -1 else IntKind.u64.max : Int) = ((18446744073709551615 : Nat) : Int) := by decide
 rw [e]
 show IntKind.u64.wrap ((BitVec.ofInt 64 ((18446744073709551615 : Nat) : Int) ^^^ BitVec.ofInt 64 (x : Int)).toNat : Int) = _
 rw [BitVec.ofInt_natCast, BitVec.ofInt_natCast, IntKind.wrap_u64]
 have h4 : (BitVec.ofNat 64 18446744073709551615 ^^^ BitVec.ofNat 64 x).toNat = 18446744073709551615 - x := by
  have h1 : BitVec.ofNat 64 18446744073709551615 = BitVec.allOnes 64 := by decide
  rw [h1, BitVec.allOnes_xor, BitVec.toNat_not, BitVec.toNat_ofNat, Nat.mod_eq_of_lt hx]
 rw [h4]
 omega
theorem bits_has (x m : Nat) (hx : x < 18446744073709551616) : (bits BinOp.and IntKind.u64 ((x : Int) / 2 ^ m) 1 == 1) = x.testBit m := by
 have e : ((x : Int) / 2 ^ m) = ((x / 2 ^ m : Nat) : Int) := by simp
 have hl : x / 2 ^ m < 18446744073709551616 := Nat.lt_of_le_of_lt (Nat.div_le_self _ _) hx
 rw [e, Nat.testBit_eq_decide_div_mod_eq]
 generalize x / 2 ^ m = y at *
 have h : bits BinOp.and IntKind.u64 (y : Int) 1 = ((y % 2 : Nat) : Int) := by
  show IntKind.u64.wrap ((BitVec.ofInt 64 (y : Int) &&& BitVec.ofInt 64 ((1 : Nat) : Int)).toNat : Int) = _
  rw [BitVec.ofInt_natCast, BitVec.ofInt_natCast, IntKind.wrap_u64]
  have h4 : (BitVec.ofNat 64 y &&& BitVec.ofNat 64 1).toNat = y % 2 := by
   rw [BitVec.toNat_and, BitVec.toNat_ofNat, BitVec.toNat_ofNat, Nat.mod_eq_of_lt hl]
   exact Nat.and_one_is_mod y
  rw [h4]; omega
 rw [h, Bool.eq_iff_iff, beq_iff_eq, decide_eq_true_eq]
 omega
theorem xor64 (x : Nat) (hx : x < 18446744073709551616) : ∀ j, j < 64 → (18446744073709551615 - x).testBit j = !x.testBit j := by
 intro j hj
 have h := Nat.testBit_two_pow_sub_succ (n := 64) (x := x) hx j
 rw [show 18446744073709551615 - x = 2 ^ 64 - (x + 1) by omega, h]
 simp [hj]
set_option maxHeartbeats 3200000 in
set_option maxRecDepth 100000 in
theorem turn_is (w : World) (k : Nat) (f : Nat → Bool) (h : SetAt w k f) :
  Calls Tryz.prog 140 #[.pointer (some ⟨k, 0, none⟩)] w fun e w' => e = .returned (.tuple #[]) ∧ SetAt w' k (turnS f) ∧ Keep (fun j => j = k) w w' := by
 have HS := Lib.hid h
 clear h
 go_enter Tryz.func140, Tryz.ntmps140
 go_wp2
 go_loopw [3] (fun i wr => ∃ c : Nat, c ≤ 4 ∧ i = .int .i64 c ∧ Hid (SetAt wr k (fun x => if x < 64 * c then !f x else f x)) ∧ Keep (fun j => j = k) w wr) (fun i _ => 4 - (intOf i).toNat)
 case atStart =>
  exact ⟨0, Nat.zero_le _, rfl, Lib.hid (HS.out.congr (fun c _ => by simp)), Keep.refl _ _⟩
 case round =>
  obtain ⟨c, hc, rfl, HC, hk⟩ := hrel
  by_cases hch : c < 4
  ·obtain ⟨ws, ⟨hw1, hw2, hw3⟩, hb⟩ := HC.out
   have hwl : c < ws.length := by omega
   obtain ⟨x, hx⟩ : ∃ x, ws[c] = x := ⟨_, rfl⟩
   have hcell : wr.cell? ⟨k, c, none⟩ = some (.int .u64 x) := by
    rw [cell_of_row _ _ _ _ _ _ hb, List.getElem?_toArray, List.getElem?_map, List.getElem?_eq_getElem hwl, hx]; rfl
   have hfz := frozen_of_row wr k c _ _ hb
   have hi4 : (c : Int) < 4 := by omega
   have hi0 : (0 : Int) ≤ (c : Int) := by omega
   have hxl : x < 18446744073709551616 := hw2 x (hx ▸ List.getElem_mem hwl)
   have HN : Hid (SetAt (wr.drew.setCell ⟨k, c, none⟩ (.int .u64 ((18446744073709551615 - x : Nat) : Int))) k (fun x => if x < 64 * (c + 1) then !f x else f x)) := Lib.hid (by
    refine ⟨ws.set c (18446744073709551615 - x), ⟨by rw [List.length_set]; exact hw1, ?_, ?_⟩, ?_⟩
    ·intro y hy
     rcases List.mem_or_eq_of_mem_set hy with h | rfl
     ·exact hw2 y h
     ·omega
    ·intro j hj
     have h3 := hw3 j hj
     dsimp only at h3 ⊢
     rw [List.getD_eq_getElem?_getD, List.getElem?_set]
     rw [List.getD_eq_getElem?_getD] at h3
     by_cases he : c = j / 64
     ·rw [if_pos he, if_pos hwl, Option.getD_some, xor64 x hxl _ (Nat.mod_lt _ (by decide))]
      rw [← he, List.getElem?_eq_getElem hwl, Option.getD_some, hx, if_neg (by omega)] at h3
      rw [h3, if_pos (by omega)]
     ·rw [if_neg he, h3]
      by_cases h1 : j < 64 * c
      ·rw [if_pos h1, if_pos (by omega)]
      ·rw [if_neg h1, if_neg (by omega)]
    ·rw [heap_setCell_same wr.drew k c _ _ _ hb, List.setIfInBounds_toArray, List.map_set])
   have hkk := (hk.drew).setCell (p := ⟨k, c, none⟩) rfl (.int .u64 ((18446744073709551615 - x : Nat) : Int))
   have hxor := bits_xor64 x hxl
   generalize 18446744073709551615 - x = y at *
   clear hxl hb hw2 hw3 hx
   go_wp2
   go_still_tail 10, (by kernel_rfl)
   change wpList _ _ _ _ _ wr.drew
   have hcd : wr.drew.cell? ⟨k, c, none⟩ = some (.int .u64 x) := hcell
   have hfd : wr.drew.frozen? ⟨k, c, none⟩ = false := hfz
   clear hcell hfz HC hk
   generalize wr.drew = wd at *
   go_wp2
   go_roundw
   case rel => exact ⟨c + 1, by omega, by go_num, HN, hkk⟩
   case measure => simp [intOf]; omega
  ·go_wp2
   go_end0
   refine ⟨rfl, HC.out.congr (fun x hx => ?_), hk⟩
   rw [if_pos (by omega)]; rfl
set_option maxHeartbeats 3200000 in
set_option maxRecDepth 100000 in
theorem turn_d (u : FrameMode) (w : World) (k : Nat) (f : Nat → Bool) (h : SetAt w k f) :
  CallsD Tryz.prog 140 #[.pointer (some ⟨k, 0, none⟩)] u w fun e u' w' => u' = u ∧ e = .returned (.tuple #[]) ∧ SetAt w' k (turnS f) ∧ Keep (fun j => j = k) w w' := by
 have HS := Lib.hid h
 clear h
 go_enter_d Tryz.func140, Tryz.ntmps140
 go_wp2
 go_loopw [3] (fun i wr => ∃ c : Nat, c ≤ 4 ∧ i = .int .i64 c ∧ Hid (SetAt wr k (fun x => if x < 64 * c then !f x else f x)) ∧ Keep (fun j => j = k) w wr) (fun i _ => 4 - (intOf i).toNat)
 case atStart =>
  exact ⟨0, Nat.zero_le _, rfl, Lib.hid (HS.out.congr (fun c _ => by simp)), Keep.refl _ _⟩
 case round =>
  obtain ⟨c, hc, rfl, HC, hk⟩ := hrel
  by_cases hch : c < 4
  ·obtain ⟨ws, ⟨hw1, hw2, hw3⟩, hb⟩ := HC.out
   have hwl : c < ws.length := by omega
   obtain ⟨x, hx⟩ : ∃ x, ws[c] = x := ⟨_, rfl⟩
   have hcell : wr.cell? ⟨k, c, none⟩ = some (.int .u64 x) := by
    rw [cell_of_row _ _ _ _ _ _ hb, List.getElem?_toArray, List.getElem?_map, List.getElem?_eq_getElem hwl, hx]; rfl
   have hfz := frozen_of_row wr k c _ _ hb
   have hi4 : (c : Int) < 4 := by omega
   have hi0 : (0 : Int) ≤ (c : Int) := by omega
   have hxl : x < 18446744073709551616 := hw2 x (hx ▸ List.getElem_mem hwl)
   have HN : Hid (SetAt (wr.drew.setCell ⟨k, c, none⟩ (.int .u64 ((18446744073709551615 - x : Nat) : Int))) k (fun x => if x < 64 * (c + 1) then !f x else f x)) := Lib.hid (by
    refine ⟨ws.set c (18446744073709551615 - x), ⟨by rw [List.length_set]; exact hw1, ?_, ?_⟩, ?_⟩
    ·intro y hy
     rcases List.mem_or_eq_of_mem_set hy with h | rfl
     ·exact hw2 y h
     ·omega
    ·intro j hj
     have h3 := hw3 j hj
     dsimp only at h3 ⊢
     rw [List.getD_eq_getElem?_getD, List.getElem?_set]
     rw [List.getD_eq_getElem?_getD] at h3
     by_cases he : c = j / 64
     ·rw [if_pos he, if_pos hwl, Option.getD_some, xor64 x hxl _ (Nat.mod_lt _ (by decide))]
      rw [← he, List.getElem?_eq_getElem hwl, Option.getD_some, hx, if_neg (by omega)] at h3
      rw [h3, if_pos (by omega)]
     ·rw [if_neg he, h3]
      by_cases h1 : j < 64 * c
      ·rw [if_pos h1, if_pos (by omega)]
      ·rw [if_neg h1, if_neg (by omega)]
    ·rw [heap_setCell_same wr.drew k c _ _ _ hb, List.setIfInBounds_toArray, List.map_set])
   have hkk := (hk.drew).setCell (p := ⟨k, c, none⟩) rfl (.int .u64 ((18446744073709551615 - x : Nat) : Int))
   have hxor := bits_xor64 x hxl
   generalize 18446744073709551615 - x = y at *
   clear hxl hb hw2 hw3 hx
   go_wp2
   go_still_tail 10, (by kernel_rfl)
   change wpList _ _ _ _ _ wr.drew
   have hcd : wr.drew.cell? ⟨k, c, none⟩ = some (.int .u64 x) := hcell
   have hfd : wr.drew.frozen? ⟨k, c, none⟩ = false := hfz
   clear hcell hfz HC hk
   generalize wr.drew = wd at *
   go_wp2
   go_roundw
   case rel => exact ⟨c + 1, by omega, by go_num, HN, hkk⟩
   case measure => simp [intOf]; omega
  ·go_wp2
   go_end0
   refine ⟨rfl, HC.out.congr (fun x hx => ?_), hk⟩
   rw [if_pos (by omega)]; rfl
set_option maxHeartbeats 1600000 in
set_option maxRecDepth 100000 in
theorem has_is (w : World) (k : Nat) (f : Nat → Bool) (c : Nat) (h : SetAt w k f) (hc : c < 256) :
  Calls Tryz.prog 111 #[.pointer (some ⟨k, 0, none⟩), .int .u8 c] w fun e w' => e = .returned (.bool (f c)) ∧ w' = w := by
 obtain ⟨ws, ⟨hw1, hw2, hw3⟩, hb⟩ := h
 have hwl : c / 64 < ws.length := by omega
 obtain ⟨x, hx⟩ : ∃ x, ws[c / 64] = x := ⟨_, rfl⟩
 have hcell : w.cell? ⟨k, c / 64, none⟩ = some (.int .u64 x) := by
  rw [cell_of_row _ _ _ _ _ _ hb, List.getElem?_toArray, List.getElem?_map, List.getElem?_eq_getElem hwl, hx]; rfl
 have hi0 : (0 : Int) ≤ (c : Int) / 64 := by omega
 have hi4 : (c : Int) / 64 < 4 := by omega
 have hnat : ((c : Int) / 64).toNat = c / 64 := by omega
 have h3 := hw3 c hc
 rw [List.getD_eq_getElem?_getD, List.getElem?_eq_getElem hwl, Option.getD_some, hx] at h3
 have hbh := bits_has x (c % 64) (hw2 x (hx ▸ List.getElem_mem hwl))
 rw [h3] at hbh
 have HBH := Lib.hid hbh
 clear hw3 hb hw2 hx hw1 hwl h3 hbh
 go_enter Tryz.func111, Tryz.ntmps111
 go_wp2
 go_ret
 exact ⟨by rw [← HBH.out]; rfl, rfl⟩
end Go.Proofs.YtgbapkechngnmaaGreat
/- pattern's builder: sign: a contract. -/
namespace Go.Proofs.YtgbapkechngnmaaGreat
open Go.RowKit
theorem Bld.fields {w : World} {g : Nat} {s : ByteArray} {b : Bs} {own : Nat → Prop} (h : Bld w g s b own) :
  w.cell? ⟨g, 0, none⟩ = some (.string s) ∧ w.cell? ⟨g, 1, none⟩ = some (.int .i64 b.pos) ∧ w.cell? ⟨g, 2, none⟩ = some (.int .i64 b.err) ∧ w.frozen? ⟨g, 1, none⟩ = false := by
 obtain ⟨sv, es, hV⟩ := h
 obtain ⟨h0, h1, h2, _, h4⟩ := hV.cells
 exact ⟨h0, h1, h2, h4 1⟩
theorem Stp.step {w : World} {g : Nat} {s : ByteArray} {b : Bs} {own : Nat → Prop} (h : Bld w g s b own) (v : Value) : Stp own w own (w.setCell ⟨g, 1, none⟩ v) := Stp.setCell h.og v
theorem signM_none {s : ByteArray} {b : Bs} (h : peekM s b = none) : signM s b = (failM (stepM b) 2, 0) := by unfold signM; rw [h]
theorem signM_plain {s : ByteArray} {b : Bs} {c : Nat} (h : peekM s b = some c) (hc : c ≠ 92) : signM s b = (stepM b, c) := by unfold signM; rw [h]; simp [hc]
theorem signM_end {s : ByteArray} {b : Bs} (h : peekM s b = some 92) (h' : peekM s (stepM b) = none) : signM s b = (failM (stepM (stepM b)) 2, 0) := by unfold signM; rw [h]; simp [h']
theorem signM_esc {s : ByteArray} {b : Bs} {d : Nat} (h : peekM s b = some 92) (h' : peekM s (stepM b) = some d) : signM s b = (stepM (stepM b), d) := by unfold signM; rw [h]; simp [h']
set_option maxHeartbeats 1600000 in
set_option maxRecDepth 100000 in
theorem sign_is (w : World) (g : Nat) (s : ByteArray) (b : Bs) (own : Nat → Prop) (h : Bld w g s b own) (hp : b.pos ≤ 1000000) :
  Calls Tryz.prog 166 #[.pointer (some ⟨g, 0, none⟩)] w fun e w' => e = .returned (.int .u8 ((signM s b).2 : Nat)) ∧ Bld w' g s (signM s b).1 own ∧ Stp own w own w' := by
 obtain ⟨o, ho⟩ : ∃ o, peekM s b = o := ⟨_, rfl⟩
 have k1 := peek_is w g s b own o ho h (by omega)
 have HO := Lib.hid ho
 have HB := Lib.hid h
 clear ho h
 go_enter Tryz.func166, Tryz.ntmps166
 go_wp2_with fail
 refine k1.mono ?_
 rintro e w1 ⟨rfl, hb1⟩
 have HB1 := Lib.hid (HB.out.below hb1)
 have HS1 := Lib.hid (Stp.of_below (own := own) hb1)
 obtain ⟨_, c1, _, f1⟩ := HB1.out.fields
 clear k1 hb1
 go_upto_region 3 with fail
 change Code.wp _ _ _ _ (w1.setCell ⟨g, 1, none⟩ (.int .i64 ((b.pos : Int) + 1)))
 have HB2 := Lib.hid HB1.out.step
 have HS2 := Lib.hid (HS1.out.trans (Stp.step HB1.out (.int .i64 ((b.pos : Int) + 1))))
 clear c1 f1 HB1 HS1 HB
 generalize w1.setCell ⟨g, 1, none⟩ (.int .i64 ((b.pos : Int) + 1)) = w2 at *
 have kf := fun W b own (h : Bld W g s b own) => fail_is W g s b own 2 h
 have KF := Lib.hid kf
 clear kf
 cases o
 ·have k2 := KF.out _ _ _ HB2.out
  go_wp2_with fail
  refine k2.mono ?_
  rintro e w3 ⟨rfl, hB3, hs3⟩
  have HB3 := Lib.hid hB3
  have HS3 := Lib.hid (HS2.out.trans hs3)
  clear k2 hB3 hs3
  go_wp2
  go_ret
  rw [signM_none HO.out]
  exact ⟨rfl, HB3.out, HS3.out⟩
 ·rename_i c
  by_cases hc : c = 92
  ·subst hc
   obtain ⟨o, ho⟩ : ∃ o, peekM s (stepM b) = o := ⟨_, rfl⟩
   have k2 := peek_is w2 g s (stepM b) own o ho HB2.out (by simp only [stepM]; omega)
   have HO2 := Lib.hid ho
   clear ho
   go_wp2_with fail
   refine k2.mono ?_
   rintro e w3 ⟨rfl, hb3⟩
   have HB3 := Lib.hid (HB2.out.below hb3)
   have HS3 := Lib.hid (HS2.out.trans (Stp.of_below (own := own) hb3))
   obtain ⟨_, c1, _, f1⟩ := HB3.out.fields
   have hps : (stepM b).pos ≤ 1000001 := by simp only [stepM]; omega
   clear k2 hb3 HB2 HS2
   go_upto_region 6 with fail
   change Code.wp _ _ _ _ (w3.setCell ⟨g, 1, none⟩ (.int .i64 (((stepM b).pos : Int) + 1)))
   have HB4 := Lib.hid HB3.out.step
   have HS4 := Lib.hid (HS3.out.trans (Stp.step HB3.out (.int .i64 (((stepM b).pos : Int) + 1))))
   clear c1 f1 HB3 HS3
   generalize w3.setCell ⟨g, 1, none⟩ (.int .i64 (((stepM b).pos : Int) + 1)) = w4 at *
   cases o
   ·have k2 := KF.out _ _ _ HB4.out
    go_wp2_with fail
    refine k2.mono ?_
    rintro e w5 ⟨rfl, hB5, hs5⟩
    have HB5 := Lib.hid hB5
    have HS5 := Lib.hid (HS4.out.trans hs5)
    clear k2 hB5 hs5
    go_wp2
    go_ret
    rw [signM_end HO.out HO2.out]
    exact ⟨rfl, HB5.out, HS5.out⟩
   ·rename_i d
    go_wp2
    go_ret
    rw [signM_esc HO.out HO2.out]
    exact ⟨rfl, HB4.out, HS4.out⟩
  ·have hcb : ((c : Int) == 92) = false := by rw [beq_eq_false_iff_ne]; omega
   have HC := Lib.hid hc
   clear hc
   go_wp2
   go_ret
   rw [signM_plain HO.out HC.out]
   exact ⟨rfl, HB2.out, HS2.out⟩
end Go.Proofs.YtgbapkechngnmaaGreat
/- pattern's builder: class: a contract. -/
namespace Go.Proofs.YtgbapkechngnmaaGreat
open Go.RowKit
structure ClsAt (w0 : World) (own : Nat → Prop) (k g : Nat) (s : ByteArray) (b : Bs) (S : Nat → Bool) (w : World) : Prop where
 bld : Bld w g s b own
 set : SetAt w k S
 nk : ¬ own k
 keep : Keep (fun j => own j ∨ j = k) w0 w
theorem ClsAt.below {w0 : World} {own : Nat → Prop} {k g : Nat} {s : ByteArray} {b : Bs} {S : Nat → Bool} {w w' : World} (h : ClsAt w0 own k g s b S w) (hb : Below w.heap.size w w') : ClsAt w0 own k g s b S w' :=
 ⟨h.bld.below hb, h.set.blk (hb.block k h.set.lt), h.nk, h.keep.trans (Keep.of_below (own := own) hb) (fun _ hj => .inl (.inl hj))⟩
theorem ClsAt.stp {w0 : World} {own : Nat → Prop} {k g : Nat} {s : ByteArray} {b b' : Bs} {S : Nat → Bool} {w w' : World} (h : ClsAt w0 own k g s b S w) (hB : Bld w' g s b' own) (hs : Stp own w own w') : ClsAt w0 own k g s b' S w' :=
 ⟨hB, h.set.blk (hs.1.block k h.set.lt h.nk), h.nk, h.keep.trans hs.1 (fun _ hj => .inl (.inl hj))⟩
theorem ClsAt.step {w0 : World} {own : Nat → Prop} {k g : Nat} {s : ByteArray} {b : Bs} {S : Nat → Bool} {w : World} (h : ClsAt w0 own k g s b S w) : ClsAt w0 own k g s (stepM b) S (w.setCell ⟨g, 1, none⟩ (.int .i64 ((b.pos : Int) + 1))) :=
 h.stp h.bld.step (Stp.step h.bld _)
theorem ClsAt.turn {w0 : World} {own : Nat → Prop} {k g : Nat} {s : ByteArray} {b : Bs} {S S' : Nat → Bool} {w w' : World} (h : ClsAt w0 own k g s b S w) (hS : SetAt w' k S') (hk : Keep (fun j => j = k) w w') : ClsAt w0 own k g s b S' w' := by
 refine ⟨?_, hS, h.nk, h.keep.trans hk (fun _ hj => .inl (.inr hj))⟩
 obtain ⟨sv, es, hV⟩ := h.bld
 exact ⟨sv, es, hV.kept hk.size (fun j hj => hk.block j (hV.lt j hj) (fun e => h.nk (e ▸ hj)))⟩
theorem wp_forget {Pr : Program} {Q : Exit → Act → World → Prop} {c : Code} {a : Act} {W : World} (P : World → Prop) (h : P W) (k : ∀ W', P W' → Code.wp Pr c Q a W') : Code.wp Pr c Q a W := k W h
def posAt (w : World) (g : Nat) : Nat := match w.cell? ⟨g, 1, none⟩ with
 | some (.int _ n) => n.toNat
 | _ => 0
theorem Bld.posAt {w : World} {g : Nat} {s : ByteArray} {b : Bs} {own : Nat → Prop} (h : Bld w g s b own) : posAt w g = b.pos := by
 unfold Go.Proofs.YtgbapkechngnmaaGreat.posAt
 rw [h.fields.2.1]
 simp
def LoopAt (w0 : World) (own : Nat → Prop) (k g : Nat) (s : ByteArray) (r : Bs × (Nat → Bool)) (v : Value) (w : World) : Prop :=
 ∃ (n : Nat) (first : Bool) (b : Bs) (S : Nat → Bool), v = .bool first ∧ loopM s (n + 1) first b S = r ∧ s.size - b.pos ≤ n ∧ b.pos ≤ s.size + 1 ∧ ClsAt w0 own k g s b S w
theorem loopM_none {s : ByteArray} {n : Nat} {first : Bool} {b : Bs} {S : Nat → Bool} (h : peekM s b = none) : loopM s (n + 1) first b S = (failM b 2, S) := by rw [loopM, h]
theorem loopM_first {s : ByteArray} {n : Nat} {b : Bs} {S : Nat → Bool} (h : peekM s b = some 93) : loopM s (n + 1) true b S = (failM b 2, S) := by rw [loopM, h]; rfl
theorem loopM_end {s : ByteArray} {n : Nat} {b : Bs} {S : Nat → Bool} (h : peekM s b = some 93) : loopM s (n + 1) false b S = (stepM b, S) := by rw [loopM, h]; rfl
theorem loopM_on {s : ByteArray} {n d : Nat} {first : Bool} {b : Bs} {S : Nat → Bool} (h : peekM s b = some d) (hd : d ≠ 93) {x : Bs × Nat} (hx : signM s b = x) {y : Bs × Nat} (hy : rangeM s x.1 x.2 = y) : loopM s (n + 1) first b S = loopM s n false (if y.2 < x.2 then failM y.1 2 else y.1) (addS S x.2 y.2) := by
 rw [loopM, h]
 dsimp only
 rw [if_neg hd, hx, hy]
theorem rangeB_false {s : ByteArray} {b : Bs} (h : peekM s b ≠ some 45) : rangeB s b = false := by unfold rangeB; rw [decide_eq_false h]; rfl
theorem rangeM_no {s : ByteArray} {b : Bs} {lo : Nat} (h : rangeB s b = false) : rangeM s b lo = (b, lo) := by unfold rangeM; rw [h]; rfl
theorem rangeM_yes {s : ByteArray} {b : Bs} {lo : Nat} (h : rangeB s b = true) : rangeM s b lo = signM s (stepM b) := by unfold rangeM; rw [h]; rfl
theorem rangeB_at {s : ByteArray} {b : Bs} (h : peekM s b = some 45) : rangeB s b = (decide (b.pos + 1 < s.size) && !decide (byteM s (b.pos + 1) = 93)) := by unfold rangeB; rw [decide_eq_true h]; rfl
set_option maxHeartbeats 12800000 in
set_option maxRecDepth 100000 in
theorem class_is (w : World) (g k : Nat) (s : ByteArray) (b1 : Bs) (own : Nat → Prop) (h : Bld w g s b1 own) (hS : SetAt w k noS) (hk : ¬ own k) (hp : b1.pos ≤ s.size) (hs : s.size ≤ 1000) :
  Calls Tryz.prog 139 #[.pointer (some ⟨g, 0, none⟩), .pointer (some ⟨k, 0, none⟩)] w fun e w' => e = .returned (.tuple #[]) ∧ Bld w' g s (classM s b1).1 own ∧ SetAt w' k (classM s b1).2 ∧ Keep (fun j => own j ∨ j = k) w w' := by
 have hc0 : ClsAt w own k g s b1 noS w := ⟨h, hS, hk, Keep.refl _ _⟩
 obtain ⟨o, ho⟩ : ∃ o, peekM s b1 = o := ⟨_, rfl⟩
 have k1 := peek_is w g s b1 own o ho h (by omega)
 have kf := fun W b own (h : Bld W g s b own) => fail_is W g s b own 2 h
 have KF := Lib.hid kf
 have kt := fun u W f (h : SetAt W k f) => turn_d u W k f h
 have KT := Lib.hid kt
 have HO := Lib.hid ho
 have H0 := Lib.hid hc0
 clear kf kt ho hc0 h hS hk
 go_enter_defers Tryz.func139, Tryz.ntmps139
 go_wp2_with fail
 refine k1.mono ?_
 rintro e w1 ⟨rfl, hb1⟩
 have H1 := Lib.hid (H0.out.below hb1)
 clear k1 hb1 H0
 by_cases h94 : o = some 94
 ·subst h94
  obtain ⟨_, c1, _, f1⟩ := H1.out.bld.fields
  have hps := (peekM_some HO.out).2.1
  obtain ⟨r0, hr0⟩ : ∃ r0, loopM s (s.size + 1) true (stepM b1) noS = r0 := ⟨_, rfl⟩
  have HR0 := Lib.hid hr0
  have HCM : Hid (classM s b1 = (r0.1, turnS r0.2)) := Lib.hid (by unfold classM; rw [if_pos HO.out, hr0])
  go_upto_region 3 with fail
  refine wp_forget (ClsAt w own k g s (stepM b1) noS) H1.out.step (fun w2 h2 => ?_)
  have H2 := Lib.hid h2
  have hsp : (stepM b1).pos ≤ s.size + 1 := by simp only [stepM]; omega
  obtain ⟨b0, hb0⟩ : ∃ b0, stepM b1 = b0 := ⟨_, rfl⟩
  rw [hb0] at H2 HR0 hsp
  clear h2 c1 f1 H1 hr0 HO hb0
  go_wp2
  go_loopw [6] (fun v wr => LoopAt w own k g s r0 v wr) (fun _ wr => s.size + 5 - posAt wr g)
  case atStart => exact ⟨s.size, true, b0, noS, rfl, HR0.out, by omega, hsp, H2.out⟩
  case round =>
   clear H2 HR0 hsp hps hp b0
   obtain ⟨n, first, b, S, rfl, he, hn, hp, hC⟩ := hrel
   have HE := Lib.hid he
   have HC := Lib.hid hC
   obtain ⟨o, ho⟩ : ∃ o, peekM s b = o := ⟨_, rfl⟩
   have k1 := peek_is wr g s b own o ho HC.out.bld (by omega)
   have HO := Lib.hid ho
   clear he hC ho
   go_wp2_with fail
   refine k1.mono ?_
   rintro e wa ⟨rfl, hba⟩
   have HA := Lib.hid (HC.out.below hba)
   clear k1 hba
   rcases o with _ | d
   ·have kq1 := KF.out _ _ _ HA.out.bld
    go_wp2_with fail
    refine kq1.mono ?_
    rintro e w1 ⟨rfl, hB1, hs1⟩
    have H1 := Lib.hid (HA.out.stp hB1 hs1)
    clear kq1 hB1 hs1
    go_wp2
    refine leaves_cons (f := 140) (args := #[.pointer (some ⟨k, 0, none⟩)]) (by simp) (by simp [go_sem]) ?_
    refine (KT.out .returning _ _ H1.out.set).mono ?_
    rintro e u w2 ⟨rfl, rfl, hS2, hk2⟩
    have he := HE.out
    rw [loopM_none HO.out] at he
    subst he
    have H2 := H1.out.turn hS2 hk2
    refine ⟨_, results_none rfl _ _ _, rfl, ?_⟩
    rw [HCM.out]
    exact ⟨H2.bld, H2.set, H2.keep⟩
   ·by_cases hd : d = 93
    ·subst hd
     cases first
     ·obtain ⟨_, c1, _, f1⟩ := HA.out.bld.fields
      have HST := Lib.hid HA.out.step
      go_wp2
      refine leaves_cons (f := 140) (args := #[.pointer (some ⟨k, 0, none⟩)]) (by simp) (by simp [go_sem]) ?_
      refine (KT.out .returning _ _ HST.out.set).mono ?_
      rintro e u w4 ⟨rfl, rfl, hS4, hk4⟩
      have he := HE.out
      rw [loopM_end HO.out] at he
      subst he
      have H4 := HST.out.turn hS4 hk4
      refine ⟨_, results_none rfl _ _ _, rfl, ?_⟩
      rw [HCM.out]
      exact ⟨H4.bld, H4.set, H4.keep⟩
     ·have kq5 := KF.out _ _ _ HA.out.bld
      go_wp2_with fail
      refine kq5.mono ?_
      rintro e w5 ⟨rfl, hB5, hs5⟩
      have H5 := Lib.hid (HA.out.stp hB5 hs5)
      clear kq5 hB5 hs5
      go_wp2
      refine leaves_cons (f := 140) (args := #[.pointer (some ⟨k, 0, none⟩)]) (by simp) (by simp [go_sem]) ?_
      refine (KT.out .returning _ _ H5.out.set).mono ?_
      rintro e u w6 ⟨rfl, rfl, hS6, hk6⟩
      have he := HE.out
      rw [loopM_first HO.out] at he
      subst he
      have H6 := H5.out.turn hS6 hk6
      refine ⟨_, results_none rfl _ _ _, rfl, ?_⟩
      rw [HCM.out]
      exact ⟨H6.bld, H6.set, H6.keep⟩
    ·have hdb : ((d : Int) == 93) = false := by rw [beq_eq_false_iff_ne]; omega
     have HD := Lib.hid hd
     have hps := (peekM_some HO.out).2.1
     obtain ⟨xb, lo, hx⟩ : ∃ xb lo, signM s b = (xb, lo) := ⟨_, _, rfl⟩
     have k2 := sign_is wa g s b own HA.out.bld (by omega)
     have hsp := signM_pos s b hps
     have hlo := signM_lt s b
     rw [hx] at k2 hsp hlo
     dsimp only at k2 hsp hlo
     have HX := Lib.hid hx
     clear hd hx
     go_wp2_with fail
     refine k2.mono ?_
     rintro e wb ⟨rfl, hBb, hsb⟩
     have HB := Lib.hid (HA.out.stp hBb hsb)
     clear k2 hBb hsb
     obtain ⟨o2, ho2⟩ : ∃ o2, peekM s xb = o2 := ⟨_, rfl⟩
     have k3 := peek_is wb g s xb own o2 ho2 HB.out.bld (by omega)
     have HO2 := Lib.hid ho2
     clear ho2
     go_wp2_with fail
     refine k3.mono ?_
     rintro e wc ⟨rfl, hbc⟩
     have HCC := Lib.hid (HB.out.below hbc)
     clear k3 hbc
     obtain ⟨c0, c1, _, _⟩ := HCC.out.bld.fields
     have HSP := Lib.hid hsp
     rcases o2 with _ | e2
     ·have HY : Hid (rangeM s (xb, lo).1 (xb, lo).2 = (xb, lo)) := Lib.hid (rangeM_no (rangeB_false (by rw [HO2.out]; simp)))
      go_upto_region 14 with fail
      go_quiet (fail)
      go_upto_region 17 with fail
      refine wp_forget (ClsAt w own k g s xb S) (HCC.out.below (bl_drewN (Below.refl _ _) _)) (fun wq hq => ?_)
      have HQ := Lib.hid hq
      clear c0 c1 hq
      have HLT : Hid (¬ (xb, lo).2 < (xb, lo).2) := Lib.hid (Nat.lt_irrefl _)
      have ka := add_is wq k S lo lo HQ.out.set hlo hlo
      go_wp2_with fail
      refine ka.mono ?_
      rintro e w7 ⟨rfl, hS7, hk7⟩
      have H7 := Lib.hid (HQ.out.turn hS7 hk7)
      clear ka hS7 hk7
      go_wp2
      go_roundw
      case rel =>
       refine ⟨n - 1, false, xb, addS S lo lo, rfl, ?_, ?_, ?_, H7.out⟩
       ·have he := HE.out
        rw [loopM_on HO.out HD.out HX.out HY.out, if_neg HLT.out] at he
        have hn1 : n - 1 + 1 = n := by have := HSP.out; omega
        rw [hn1]
        exact he
       ·have := HSP.out; omega
       ·have := HSP.out; omega
      case measure =>
       rw [H7.out.bld.posAt, HC.out.bld.posAt]
       have := HSP.out; omega
     ·by_cases h45 : e2 = 45
      ·subst h45
       by_cases hin : xb.pos + 1 < s.size
       ·by_cases h93 : byteM s (xb.pos + 1) = 93
        ·have hi0 : (0 : Int) ≤ (xb.pos : Int) + 1 := by omega
         have hi1 : (xb.pos : Int) + 1 < (s.size : Int) := by omega
         have hnt : ((xb.pos : Int) + 1).toNat = xb.pos + 1 := by omega
         have hwr : IntKind.i64.wrap ((xb.pos : Int) + 1) = (xb.pos : Int) + 1 := IntWalk.i64_in _ ⟨by omega, by omega⟩
         have hd1 : decide ((xb.pos : Int) + 1 < (s.size : Int)) = true := decide_eq_true hi1
         have hba := byteM_at s (xb.pos + 1) hin
         have h9 : (((s[xb.pos + 1]'hin).toNat : Int) != 93) = false := by rw [hba, h93]; rfl
         have HY : Hid (rangeM s (xb, lo).1 (xb, lo).2 = (xb, lo)) := Lib.hid (rangeM_no (by rw [rangeB_at HO2.out, h93]; simp))
         go_upto_region 14 with fail
         go_quiet (fail)
         go_upto_region 17 with fail
         refine wp_forget (ClsAt w own k g s xb S) (HCC.out.below (bl_drewN (Below.refl _ _) _)) (fun wq hq => ?_)
         have HQ := Lib.hid hq
         clear c0 c1 hq
         have HLT : Hid (¬ (xb, lo).2 < (xb, lo).2) := Lib.hid (Nat.lt_irrefl _)
         have ka := add_is wq k S lo lo HQ.out.set hlo hlo
         go_wp2_with fail
         refine ka.mono ?_
         rintro e w8 ⟨rfl, hS8, hk8⟩
         have H8 := Lib.hid (HQ.out.turn hS8 hk8)
         clear ka hS8 hk8
         go_wp2
         go_roundw
         case rel =>
          refine ⟨n - 1, false, xb, addS S lo lo, rfl, ?_, ?_, ?_, H8.out⟩
          ·have he := HE.out
           rw [loopM_on HO.out HD.out HX.out HY.out, if_neg HLT.out] at he
           have hn1 : n - 1 + 1 = n := by have := HSP.out; omega
           rw [hn1]
           exact he
          ·have := HSP.out; omega
          ·have := HSP.out; omega
         case measure =>
          rw [H8.out.bld.posAt, HC.out.bld.posAt]
          have := HSP.out; omega
        ·have hi0 : (0 : Int) ≤ (xb.pos : Int) + 1 := by omega
         have hi1 : (xb.pos : Int) + 1 < (s.size : Int) := by omega
         have hnt : ((xb.pos : Int) + 1).toNat = xb.pos + 1 := by omega
         have hwr : IntKind.i64.wrap ((xb.pos : Int) + 1) = (xb.pos : Int) + 1 := IntWalk.i64_in _ ⟨by omega, by omega⟩
         have hd1 : decide ((xb.pos : Int) + 1 < (s.size : Int)) = true := decide_eq_true hi1
         have hba := byteM_at s (xb.pos + 1) hin
         have h9 : (((s[xb.pos + 1]'hin).toNat : Int) != 93) = true := by rw [hba]; simp; omega
         have hrb : rangeB s xb = true := by rw [rangeB_at HO2.out]; simp [hin, h93]
         go_upto_region 14 with fail
         go_quiet (fail)
         go_upto_region 16 with fail
         refine wp_forget (ClsAt w own k g s (stepM xb) S) (HCC.out.below (bl_drewN (Below.refl _ _) _)).step (fun wq hq => ?_)
         have HQ := Lib.hid hq
         obtain ⟨yb, hi, hye⟩ : ∃ yb hi, signM s (stepM xb) = (yb, hi) := ⟨_, _, rfl⟩
         have k4 := sign_is wq g s (stepM xb) own HQ.out.bld (by simp only [stepM]; omega)
         have hsp2 := signM_pos s (stepM xb) hin
         have hhi := signM_lt s (stepM xb)
         rw [hye] at k4 hsp2 hhi
         dsimp only at k4 hsp2 hhi
         have HY : Hid (rangeM s (xb, lo).1 (xb, lo).2 = (yb, hi)) := Lib.hid ((rangeM_yes hrb).trans hye)
         have HP : Hid (b.pos < yb.pos ∧ yb.pos ≤ s.size + 1) := Lib.hid ⟨by simp only [stepM] at hsp2; have := HSP.out; omega, hsp2.2⟩
         clear c0 c1 hq hye hrb hsp2 h9 hba hi0 hi1 hnt hwr hd1
         go_wp2_with fail
         refine k4.mono ?_
         rintro e wd ⟨rfl, hBd, hsd⟩
         have HDD := Lib.hid (HQ.out.stp hBd hsd)
         clear k4 hBd hsd
         by_cases hlt : hi < lo
         ·have HLT := Lib.hid hlt
          have hlti : (hi : Int) < (lo : Int) := by omega
          clear hlt
          have kq10 := KF.out _ _ _ HDD.out.bld
          go_wp2_with fail
          refine kq10.mono ?_
          rintro e w10 ⟨rfl, hB10, hs10⟩
          have H10 := Lib.hid (HDD.out.stp hB10 hs10)
          clear kq10 hB10 hs10
          have ka11 := add_is _ k S lo hi H10.out.set hlo hhi
          go_wp2_with fail
          refine ka11.mono ?_
          rintro e w11 ⟨rfl, hS11, hk11⟩
          have H11 := Lib.hid (H10.out.turn hS11 hk11)
          clear ka11 hS11 hk11
          go_wp2
          go_roundw
          case rel =>
           refine ⟨n - 1, false, failM yb 2, addS S lo hi, rfl, ?_, ?_, ?_, H11.out⟩
           ·have he := HE.out
            rw [loopM_on HO.out HD.out HX.out HY.out] at he
            dsimp only at he
            rw [if_pos HLT.out] at he
            have hn1 : n - 1 + 1 = n := by have := HSP.out; omega
            rw [hn1]
            exact he
           ·rw [failM_pos]; have := HP.out; omega
           ·rw [failM_pos]; have := HP.out; omega
          case measure =>
           rw [H11.out.bld.posAt, HC.out.bld.posAt]
           rw [failM_pos]
           have := HP.out; omega
         ·have HLT := Lib.hid hlt
          have hlti : ¬ (hi : Int) < (lo : Int) := by omega
          have hlti' : (lo : Int) ≤ (hi : Int) := by omega
          clear hlt
          have ka14 := add_is _ k S lo hi HDD.out.set hlo hhi
          go_wp2_with fail
          refine ka14.mono ?_
          rintro e w14 ⟨rfl, hS14, hk14⟩
          have H14 := Lib.hid (HDD.out.turn hS14 hk14)
          clear ka14 hS14 hk14
          go_wp2
          go_roundw
          case rel =>
           refine ⟨n - 1, false, yb, addS S lo hi, rfl, ?_, ?_, ?_, H14.out⟩
           ·have he := HE.out
            rw [loopM_on HO.out HD.out HX.out HY.out] at he
            dsimp only at he
            rw [if_neg HLT.out] at he
            have hn1 : n - 1 + 1 = n := by have := HSP.out; omega
            rw [hn1]
            exact he
           ·have := HP.out; omega
           ·have := HP.out; omega
          case measure =>
           rw [H14.out.bld.posAt, HC.out.bld.posAt]
           skip
           have := HP.out; omega
       ·have hd1 : decide ((xb.pos : Int) + 1 < (s.size : Int)) = false := decide_eq_false (by omega)
        have hwr : IntKind.i64.wrap ((xb.pos : Int) + 1) = (xb.pos : Int) + 1 := IntWalk.i64_in _ ⟨by omega, by omega⟩
        have HY : Hid (rangeM s (xb, lo).1 (xb, lo).2 = (xb, lo)) := Lib.hid (rangeM_no (by rw [rangeB_at HO2.out]; simp [hin]))
        go_upto_region 14 with fail
        go_quiet (fail)
        go_upto_region 17 with fail
        refine wp_forget (ClsAt w own k g s xb S) (HCC.out.below (bl_drewN (Below.refl _ _) _)) (fun wq hq => ?_)
        have HQ := Lib.hid hq
        clear c0 c1 hq
        have HLT : Hid (¬ (xb, lo).2 < (xb, lo).2) := Lib.hid (Nat.lt_irrefl _)
        have ka := add_is wq k S lo lo HQ.out.set hlo hlo
        go_wp2_with fail
        refine ka.mono ?_
        rintro e w16 ⟨rfl, hS16, hk16⟩
        have H16 := Lib.hid (HQ.out.turn hS16 hk16)
        clear ka hS16 hk16
        go_wp2
        go_roundw
        case rel =>
         refine ⟨n - 1, false, xb, addS S lo lo, rfl, ?_, ?_, ?_, H16.out⟩
         ·have he := HE.out
          rw [loopM_on HO.out HD.out HX.out HY.out, if_neg HLT.out] at he
          have hn1 : n - 1 + 1 = n := by have := HSP.out; omega
          rw [hn1]
          exact he
         ·have := HSP.out; omega
         ·have := HSP.out; omega
        case measure =>
         rw [H16.out.bld.posAt, HC.out.bld.posAt]
         have := HSP.out; omega
      ·have hb45 : ((e2 : Int) == 45) = false := by rw [beq_eq_false_iff_ne]; omega
       have HY : Hid (rangeM s (xb, lo).1 (xb, lo).2 = (xb, lo)) := Lib.hid (rangeM_no (rangeB_false (by rw [HO2.out]; simpa using h45)))
       go_upto_region 14 with fail
       go_quiet (fail)
       go_upto_region 17 with fail
       refine wp_forget (ClsAt w own k g s xb S) (HCC.out.below (bl_drewN (Below.refl _ _) _)) (fun wq hq => ?_)
       have HQ := Lib.hid hq
       clear c0 c1 hq
       have HLT : Hid (¬ (xb, lo).2 < (xb, lo).2) := Lib.hid (Nat.lt_irrefl _)
       have ka := add_is wq k S lo lo HQ.out.set hlo hlo
       go_wp2_with fail
       refine ka.mono ?_
       rintro e w17 ⟨rfl, hS17, hk17⟩
       have H17 := Lib.hid (HQ.out.turn hS17 hk17)
       clear ka hS17 hk17
       go_wp2
       go_roundw
       case rel =>
        refine ⟨n - 1, false, xb, addS S lo lo, rfl, ?_, ?_, ?_, H17.out⟩
        ·have he := HE.out
         rw [loopM_on HO.out HD.out HX.out HY.out, if_neg HLT.out] at he
         have hn1 : n - 1 + 1 = n := by have := HSP.out; omega
         rw [hn1]
         exact he
        ·have := HSP.out; omega
        ·have := HSP.out; omega
       case measure =>
        rw [H17.out.bld.posAt, HC.out.bld.posAt]
        have := HSP.out; omega
 ·have hn94 : ((((o.getD 0 : Nat) : Int)) == 94) = false := by
   rw [beq_eq_false_iff_ne]
   rcases o with _ | c
   ·simp
   ·simp at h94 ⊢; omega
  obtain ⟨r0, hr0⟩ : ∃ r0, loopM s (s.size + 1) true b1 noS = r0 := ⟨_, rfl⟩
  have HR0 := Lib.hid hr0
  have HCM : Hid (classM s b1 = r0) := Lib.hid (by unfold classM; rw [if_neg (by rw [HO.out]; exact h94)]; exact hr0)
  clear hr0 h94
  go_wp2
  go_loopw [6] (fun v wr => LoopAt w own k g s r0 v wr) (fun _ wr => s.size + 5 - posAt wr g)
  case atStart => exact ⟨s.size, true, b1, noS, rfl, HR0.out, by omega, by omega, H1.out⟩
  case round =>
   clear H1 HR0 HO hn94 hp
   obtain ⟨n, first, b, S, rfl, he, hn, hp, hC⟩ := hrel
   have HE := Lib.hid he
   have HC := Lib.hid hC
   obtain ⟨o, ho⟩ : ∃ o, peekM s b = o := ⟨_, rfl⟩
   have k1 := peek_is wr g s b own o ho HC.out.bld (by omega)
   have HO := Lib.hid ho
   clear he hC ho
   go_wp2_with fail
   refine k1.mono ?_
   rintro e wa ⟨rfl, hba⟩
   have HA := Lib.hid (HC.out.below hba)
   clear k1 hba
   rcases o with _ | d
   ·have kq18 := KF.out _ _ _ HA.out.bld
    go_wp2_with fail
    refine kq18.mono ?_
    rintro e w18 ⟨rfl, hB18, hs18⟩
    have H18 := Lib.hid (HA.out.stp hB18 hs18)
    clear kq18 hB18 hs18
    go_wp2
    have he := HE.out
    rw [loopM_none HO.out] at he
    subst he
    refine ⟨_, results_none rfl _ _ _, rfl, ?_⟩
    rw [HCM.out]
    exact ⟨H18.out.bld, H18.out.set, H18.out.keep⟩
   ·by_cases hd : d = 93
    ·subst hd
     cases first
     ·obtain ⟨_, c1, _, f1⟩ := HA.out.bld.fields
      have HST := Lib.hid HA.out.step
      go_wp2
      have he := HE.out
      rw [loopM_end HO.out] at he
      subst he
      refine ⟨_, results_none rfl _ _ _, rfl, ?_⟩
      rw [HCM.out]
      exact ⟨HST.out.bld, HST.out.set, HST.out.keep⟩
     ·have kq22 := KF.out _ _ _ HA.out.bld
      go_wp2_with fail
      refine kq22.mono ?_
      rintro e w22 ⟨rfl, hB22, hs22⟩
      have H22 := Lib.hid (HA.out.stp hB22 hs22)
      clear kq22 hB22 hs22
      go_wp2
      have he := HE.out
      rw [loopM_first HO.out] at he
      subst he
      refine ⟨_, results_none rfl _ _ _, rfl, ?_⟩
      rw [HCM.out]
      exact ⟨H22.out.bld, H22.out.set, H22.out.keep⟩
    ·have hdb : ((d : Int) == 93) = false := by rw [beq_eq_false_iff_ne]; omega
     have HD := Lib.hid hd
     have hps := (peekM_some HO.out).2.1
     obtain ⟨xb, lo, hx⟩ : ∃ xb lo, signM s b = (xb, lo) := ⟨_, _, rfl⟩
     have k2 := sign_is wa g s b own HA.out.bld (by omega)
     have hsp := signM_pos s b hps
     have hlo := signM_lt s b
     rw [hx] at k2 hsp hlo
     dsimp only at k2 hsp hlo
     have HX := Lib.hid hx
     clear hd hx
     go_wp2_with fail
     refine k2.mono ?_
     rintro e wb ⟨rfl, hBb, hsb⟩
     have HB := Lib.hid (HA.out.stp hBb hsb)
     clear k2 hBb hsb
     obtain ⟨o2, ho2⟩ : ∃ o2, peekM s xb = o2 := ⟨_, rfl⟩
     have k3 := peek_is wb g s xb own o2 ho2 HB.out.bld (by omega)
     have HO2 := Lib.hid ho2
     clear ho2
     go_wp2_with fail
     refine k3.mono ?_
     rintro e wc ⟨rfl, hbc⟩
     have HCC := Lib.hid (HB.out.below hbc)
     clear k3 hbc
     obtain ⟨c0, c1, _, _⟩ := HCC.out.bld.fields
     have HSP := Lib.hid hsp
     rcases o2 with _ | e2
     ·have HY : Hid (rangeM s (xb, lo).1 (xb, lo).2 = (xb, lo)) := Lib.hid (rangeM_no (rangeB_false (by rw [HO2.out]; simp)))
      go_upto_region 14 with fail
      go_quiet (fail)
      go_upto_region 17 with fail
      refine wp_forget (ClsAt w own k g s xb S) (HCC.out.below (bl_drewN (Below.refl _ _) _)) (fun wq hq => ?_)
      have HQ := Lib.hid hq
      clear c0 c1 hq
      have HLT : Hid (¬ (xb, lo).2 < (xb, lo).2) := Lib.hid (Nat.lt_irrefl _)
      have ka := add_is wq k S lo lo HQ.out.set hlo hlo
      go_wp2_with fail
      refine ka.mono ?_
      rintro e w24 ⟨rfl, hS24, hk24⟩
      have H24 := Lib.hid (HQ.out.turn hS24 hk24)
      clear ka hS24 hk24
      go_wp2
      go_roundw
      case rel =>
       refine ⟨n - 1, false, xb, addS S lo lo, rfl, ?_, ?_, ?_, H24.out⟩
       ·have he := HE.out
        rw [loopM_on HO.out HD.out HX.out HY.out, if_neg HLT.out] at he
        have hn1 : n - 1 + 1 = n := by have := HSP.out; omega
        rw [hn1]
        exact he
       ·have := HSP.out; omega
       ·have := HSP.out; omega
      case measure =>
       rw [H24.out.bld.posAt, HC.out.bld.posAt]
       have := HSP.out; omega
     ·by_cases h45 : e2 = 45
      ·subst h45
       by_cases hin : xb.pos + 1 < s.size
       ·by_cases h93 : byteM s (xb.pos + 1) = 93
        ·have hi0 : (0 : Int) ≤ (xb.pos : Int) + 1 := by omega
         have hi1 : (xb.pos : Int) + 1 < (s.size : Int) := by omega
         have hnt : ((xb.pos : Int) + 1).toNat = xb.pos + 1 := by omega
         have hwr : IntKind.i64.wrap ((xb.pos : Int) + 1) = (xb.pos : Int) + 1 := IntWalk.i64_in _ ⟨by omega, by omega⟩
         have hd1 : decide ((xb.pos : Int) + 1 < (s.size : Int)) = true := decide_eq_true hi1
         have hba := byteM_at s (xb.pos + 1) hin
         have h9 : (((s[xb.pos + 1]'hin).toNat : Int) != 93) = false := by rw [hba, h93]; rfl
         have HY : Hid (rangeM s (xb, lo).1 (xb, lo).2 = (xb, lo)) := Lib.hid (rangeM_no (by rw [rangeB_at HO2.out, h93]; simp))
         go_upto_region 14 with fail
         go_quiet (fail)
         go_upto_region 17 with fail
         refine wp_forget (ClsAt w own k g s xb S) (HCC.out.below (bl_drewN (Below.refl _ _) _)) (fun wq hq => ?_)
         have HQ := Lib.hid hq
         clear c0 c1 hq
         have HLT : Hid (¬ (xb, lo).2 < (xb, lo).2) := Lib.hid (Nat.lt_irrefl _)
         have ka := add_is wq k S lo lo HQ.out.set hlo hlo
         go_wp2_with fail
         refine ka.mono ?_
         rintro e w25 ⟨rfl, hS25, hk25⟩
         have H25 := Lib.hid (HQ.out.turn hS25 hk25)
         clear ka hS25 hk25
         go_wp2
         go_roundw
         case rel =>
          refine ⟨n - 1, false, xb, addS S lo lo, rfl, ?_, ?_, ?_, H25.out⟩
          ·have he := HE.out
           rw [loopM_on HO.out HD.out HX.out HY.out, if_neg HLT.out] at he
           have hn1 : n - 1 + 1 = n := by have := HSP.out; omega
           rw [hn1]
           exact he
          ·have := HSP.out; omega
          ·have := HSP.out; omega
         case measure =>
          rw [H25.out.bld.posAt, HC.out.bld.posAt]
          have := HSP.out; omega
        ·have hi0 : (0 : Int) ≤ (xb.pos : Int) + 1 := by omega
         have hi1 : (xb.pos : Int) + 1 < (s.size : Int) := by omega
         have hnt : ((xb.pos : Int) + 1).toNat = xb.pos + 1 := by omega
         have hwr : IntKind.i64.wrap ((xb.pos : Int) + 1) = (xb.pos : Int) + 1 := IntWalk.i64_in _ ⟨by omega, by omega⟩
         have hd1 : decide ((xb.pos : Int) + 1 < (s.size : Int)) = true := decide_eq_true hi1
         have hba := byteM_at s (xb.pos + 1) hin
         have h9 : (((s[xb.pos + 1]'hin).toNat : Int) != 93) = true := by rw [hba]; simp; omega
         have hrb : rangeB s xb = true := by rw [rangeB_at HO2.out]; simp [hin, h93]
         go_upto_region 14 with fail
         go_quiet (fail)
         go_upto_region 16 with fail
         refine wp_forget (ClsAt w own k g s (stepM xb) S) (HCC.out.below (bl_drewN (Below.refl _ _) _)).step (fun wq hq => ?_)
         have HQ := Lib.hid hq
         obtain ⟨yb, hi, hye⟩ : ∃ yb hi, signM s (stepM xb) = (yb, hi) := ⟨_, _, rfl⟩
         have k4 := sign_is wq g s (stepM xb) own HQ.out.bld (by simp only [stepM]; omega)
         have hsp2 := signM_pos s (stepM xb) hin
         have hhi := signM_lt s (stepM xb)
         rw [hye] at k4 hsp2 hhi
         dsimp only at k4 hsp2 hhi
         have HY : Hid (rangeM s (xb, lo).1 (xb, lo).2 = (yb, hi)) := Lib.hid ((rangeM_yes hrb).trans hye)
         have HP : Hid (b.pos < yb.pos ∧ yb.pos ≤ s.size + 1) := Lib.hid ⟨by simp only [stepM] at hsp2; have := HSP.out; omega, hsp2.2⟩
         clear c0 c1 hq hye hrb hsp2 h9 hba hi0 hi1 hnt hwr hd1
         go_wp2_with fail
         refine k4.mono ?_
         rintro e wd ⟨rfl, hBd, hsd⟩
         have HDD := Lib.hid (HQ.out.stp hBd hsd)
         clear k4 hBd hsd
         by_cases hlt : hi < lo
         ·have HLT := Lib.hid hlt
          have hlti : (hi : Int) < (lo : Int) := by omega
          clear hlt
          have kq27 := KF.out _ _ _ HDD.out.bld
          go_wp2_with fail
          refine kq27.mono ?_
          rintro e w27 ⟨rfl, hB27, hs27⟩
          have H27 := Lib.hid (HDD.out.stp hB27 hs27)
          clear kq27 hB27 hs27
          have ka28 := add_is _ k S lo hi H27.out.set hlo hhi
          go_wp2_with fail
          refine ka28.mono ?_
          rintro e w28 ⟨rfl, hS28, hk28⟩
          have H28 := Lib.hid (H27.out.turn hS28 hk28)
          clear ka28 hS28 hk28
          go_wp2
          go_roundw
          case rel =>
           refine ⟨n - 1, false, failM yb 2, addS S lo hi, rfl, ?_, ?_, ?_, H28.out⟩
           ·have he := HE.out
            rw [loopM_on HO.out HD.out HX.out HY.out] at he
            dsimp only at he
            rw [if_pos HLT.out] at he
            have hn1 : n - 1 + 1 = n := by have := HSP.out; omega
            rw [hn1]
            exact he
           ·rw [failM_pos]; have := HP.out; omega
           ·rw [failM_pos]; have := HP.out; omega
          case measure =>
           rw [H28.out.bld.posAt, HC.out.bld.posAt]
           rw [failM_pos]
           have := HP.out; omega
         ·have HLT := Lib.hid hlt
          have hlti : ¬ (hi : Int) < (lo : Int) := by omega
          have hlti' : (lo : Int) ≤ (hi : Int) := by omega
          clear hlt
          have ka31 := add_is _ k S lo hi HDD.out.set hlo hhi
          go_wp2_with fail
          refine ka31.mono ?_
          rintro e w31 ⟨rfl, hS31, hk31⟩
          have H31 := Lib.hid (HDD.out.turn hS31 hk31)
          clear ka31 hS31 hk31
          go_wp2
          go_roundw
          case rel =>
           refine ⟨n - 1, false, yb, addS S lo hi, rfl, ?_, ?_, ?_, H31.out⟩
           ·have he := HE.out
            rw [loopM_on HO.out HD.out HX.out HY.out] at he
            dsimp only at he
            rw [if_neg HLT.out] at he
            have hn1 : n - 1 + 1 = n := by have := HSP.out; omega
            rw [hn1]
            exact he
           ·have := HP.out; omega
           ·have := HP.out; omega
          case measure =>
           rw [H31.out.bld.posAt, HC.out.bld.posAt]
           skip
           have := HP.out; omega
       ·have hd1 : decide ((xb.pos : Int) + 1 < (s.size : Int)) = false := decide_eq_false (by omega)
        have hwr : IntKind.i64.wrap ((xb.pos : Int) + 1) = (xb.pos : Int) + 1 := IntWalk.i64_in _ ⟨by omega, by omega⟩
        have HY : Hid (rangeM s (xb, lo).1 (xb, lo).2 = (xb, lo)) := Lib.hid (rangeM_no (by rw [rangeB_at HO2.out]; simp [hin]))
        go_upto_region 14 with fail
        go_quiet (fail)
        go_upto_region 17 with fail
        refine wp_forget (ClsAt w own k g s xb S) (HCC.out.below (bl_drewN (Below.refl _ _) _)) (fun wq hq => ?_)
        have HQ := Lib.hid hq
        clear c0 c1 hq
        have HLT : Hid (¬ (xb, lo).2 < (xb, lo).2) := Lib.hid (Nat.lt_irrefl _)
        have ka := add_is wq k S lo lo HQ.out.set hlo hlo
        go_wp2_with fail
        refine ka.mono ?_
        rintro e w33 ⟨rfl, hS33, hk33⟩
        have H33 := Lib.hid (HQ.out.turn hS33 hk33)
        clear ka hS33 hk33
        go_wp2
        go_roundw
        case rel =>
         refine ⟨n - 1, false, xb, addS S lo lo, rfl, ?_, ?_, ?_, H33.out⟩
         ·have he := HE.out
          rw [loopM_on HO.out HD.out HX.out HY.out, if_neg HLT.out] at he
          have hn1 : n - 1 + 1 = n := by have := HSP.out; omega
          rw [hn1]
          exact he
         ·have := HSP.out; omega
         ·have := HSP.out; omega
        case measure =>
         rw [H33.out.bld.posAt, HC.out.bld.posAt]
         have := HSP.out; omega
      ·have hb45 : ((e2 : Int) == 45) = false := by rw [beq_eq_false_iff_ne]; omega
       have HY : Hid (rangeM s (xb, lo).1 (xb, lo).2 = (xb, lo)) := Lib.hid (rangeM_no (rangeB_false (by rw [HO2.out]; simpa using h45)))
       go_upto_region 14 with fail
       go_quiet (fail)
       go_upto_region 17 with fail
       refine wp_forget (ClsAt w own k g s xb S) (HCC.out.below (bl_drewN (Below.refl _ _) _)) (fun wq hq => ?_)
       have HQ := Lib.hid hq
       clear c0 c1 hq
       have HLT : Hid (¬ (xb, lo).2 < (xb, lo).2) := Lib.hid (Nat.lt_irrefl _)
       have ka := add_is wq k S lo lo HQ.out.set hlo hlo
       go_wp2_with fail
       refine ka.mono ?_
       rintro e w34 ⟨rfl, hS34, hk34⟩
       have H34 := Lib.hid (HQ.out.turn hS34 hk34)
       clear ka hS34 hk34
       go_wp2
       go_roundw
       case rel =>
        refine ⟨n - 1, false, xb, addS S lo lo, rfl, ?_, ?_, ?_, H34.out⟩
        ·have he := HE.out
         rw [loopM_on HO.out HD.out HX.out HY.out, if_neg HLT.out] at he
         have hn1 : n - 1 + 1 = n := by have := HSP.out; omega
         rw [hn1]
         exact he
        ·have := HSP.out; omega
        ·have := HSP.out; omega
       case measure =>
        rw [H34.out.bld.posAt, HC.out.bld.posAt]
        have := HSP.out; omega
end Go.Proofs.YtgbapkechngnmaaGreat
/- pattern's builder beside boxes of the caller's: what is carried from call to call. -/
namespace Go.Proofs.YtgbapkechngnmaaGreat
open Go.RowKit
def PBx (w : World) (k : Nat) (a b : Value) : Prop := w.heap[k]? = some (.cells #[a, b] 132 (0, 0))
structure BSo (own0 : Nat → Prop) (W0 : World) (g : Nat) (s : ByteArray) (b : Bs) (bx : List (Nat × Value × Value)) (own : Nat → Prop) (w : World) : Prop where
 bld : Bld w g s b own
 stp : Stp own0 W0 own w
 box : ∀ x ∈ bx, PBx w x.1 x.2.1 x.2.2 ∧ ¬ own x.1
 new : ∀ x ∈ bx, W0.heap.size ≤ x.1
def BS (own0 : Nat → Prop) (W0 : World) (g : Nat) (s : ByteArray) (b : Bs) (bx : List (Nat × Value × Value)) (w : World) : Prop := ∃ own, BSo own0 W0 g s b bx own w
theorem PBx.lt {w : World} {k : Nat} {a b : Value} (h : PBx w k a b) : k < w.heap.size := (Array.getElem?_eq_some_iff.1 h).1
theorem PBx.c0 {w : World} {k : Nat} {a b : Value} (h : PBx w k a b) : w.cell? ⟨k, 0, none⟩ = some a := by rw [cell_of_row _ _ _ _ _ _ h]; rfl
theorem PBx.c1 {w : World} {k : Nat} {a b : Value} (h : PBx w k a b) : w.cell? ⟨k, 1, none⟩ = some b := by rw [cell_of_row _ _ _ _ _ _ h]; rfl
theorem PBx.fz {w : World} {k : Nat} {a b : Value} (h : PBx w k a b) (j : Nat) : w.frozen? ⟨k, j, none⟩ = false := frozen_of_row w k j _ _ h
theorem BSo.call {own0 own own' : Nat → Prop} {W0 w w' : World} {g : Nat} {s : ByteArray} {b b' : Bs} {bx : List (Nat × Value × Value)} (h : BSo own0 W0 g s b bx own w) (hB : Bld w' g s b' own') (hs : Stp own w own' w') : BS own0 W0 g s b' bx w' :=
 ⟨own', hB, h.stp.trans hs, fun x hx => ⟨hs.blk (h.box x hx).1 (h.box x hx).2, hs.not (h.box x hx).1.lt (h.box x hx).2⟩, h.new⟩
theorem BS.below {own0 : Nat → Prop} {W0 w w' : World} {g : Nat} {s : ByteArray} {b : Bs} {bx : List (Nat × Value × Value)} (h : BS own0 W0 g s b bx w) (hb : Below w.heap.size w w') : BS own0 W0 g s b bx w' := by
 obtain ⟨own, h⟩ := h
 exact h.call (h.bld.below hb) (Stp.of_below hb)
theorem BS.step {own0 : Nat → Prop} {W0 w : World} {g : Nat} {s : ByteArray} {b : Bs} {bx : List (Nat × Value × Value)} (h : BS own0 W0 g s b bx w) : BS own0 W0 g s (stepM b) bx (w.setCell ⟨g, 1, none⟩ (.int .i64 ((b.pos : Int) + 1))) := by
 obtain ⟨own, h⟩ := h
 exact h.call h.bld.step (Stp.step h.bld _)
theorem BS.alloc {own0 : Nat → Prop} {W0 w : World} {g : Nat} {s : ByteArray} {b : Bs} {bx : List (Nat × Value × Value)} (h : BS own0 W0 g s b bx w) (x y : Value) : BS own0 W0 g s b ((w.heap.size, x, y) :: bx) (w.alloc (.cells #[x, y] 132)) := by
 obtain ⟨own, h⟩ := h
 have hb := alloc_below w (.cells #[x, y] 132)
 have hs := Stp.of_below (own := own) hb
 refine ⟨own, h.bld.below hb, h.stp.trans hs, ?_, ?_⟩
 ·intro z hz
  rcases List.mem_cons.1 hz with rfl | hz
  ·exact ⟨heap_alloc_new _ _, fun h0 => by have := h.bld.lt _ h0; dsimp only at this; omega⟩
  ·exact ⟨hs.blk (h.box z hz).1 (h.box z hz).2, hs.not (h.box z hz).1.lt (h.box z hz).2⟩
 ·intro z hz
  rcases List.mem_cons.1 hz with rfl | hz
  ·exact h.stp.1.size
  ·exact h.new z hz
theorem BS.start {own : Nat → Prop} {w : World} {g : Nat} {s : ByteArray} {b : Bs} (h : Bld w g s b own) : BS own w g s b [] w := ⟨own, h, Stp.refl _ _, (fun _ h => by cases h), (fun _ h => by cases h)⟩
theorem BS.fields {own0 : Nat → Prop} {W0 w : World} {g : Nat} {s : ByteArray} {b : Bs} {bx : List (Nat × Value × Value)} (h : BS own0 W0 g s b bx w) :
  w.cell? ⟨g, 0, none⟩ = some (.string s) ∧ w.cell? ⟨g, 1, none⟩ = some (.int .i64 b.pos) ∧ w.cell? ⟨g, 2, none⟩ = some (.int .i64 b.err) ∧ w.frozen? ⟨g, 1, none⟩ = false := by
 obtain ⟨own, h⟩ := h
 exact h.bld.fields
theorem BS.cells {own0 : Nat → Prop} {W0 w : World} {g : Nat} {s : ByteArray} {b : Bs} {bx : List (Nat × Value × Value)} (h : BS own0 W0 g s b bx w) {k : Nat} {x y : Value} (hm : (k, x, y) ∈ bx) :
  w.cell? ⟨k, 0, none⟩ = some x ∧ w.cell? ⟨k, 1, none⟩ = some y ∧ w.frozen? ⟨k, 0, none⟩ = false ∧ w.frozen? ⟨k, 1, none⟩ = false ∧ k < w.heap.size := by
 obtain ⟨own, h⟩ := h
 have := (h.box _ hm).1
 exact ⟨this.c0, this.c1, this.fz 0, this.fz 1, this.lt⟩
theorem BS.put {own0 : Nat → Prop} {W0 w : World} {g : Nat} {s : ByteArray} {b : Bs} {bx : List (Nat × Value × Value)} {k j : Nat} {x y : Value} (h : BS own0 W0 g s b ((k, x, y) :: bx) w) (hd : ∀ z ∈ bx, z.1 ≠ k) (v : Value) :
  BS own0 W0 g s b ((k, (if j = 0 then v else x), (if j = 1 then v else y)) :: bx) (w.setCell ⟨k, j, none⟩ v) := by
 obtain ⟨own, h⟩ := h
 obtain ⟨hk, hn⟩ := h.box _ (List.mem_cons_self)
 have hw := h.new _ (List.mem_cons_self)
 dsimp only at hk hn hw
 refine ⟨own, h.bld.box (p := ⟨k, j, none⟩) hn v, ⟨⟨h.stp.1.os, h.stp.1.tape, h.stp.1.output, by simpa using h.stp.1.size, fun i hi hno => (heap_setCell_other w ⟨k, j, none⟩ i v (fun e => by have e' : i = k := e; omega)).trans (h.stp.1.block i hi hno)⟩, h.stp.2⟩, ?_, ?_⟩
 ·intro z hz
  rcases List.mem_cons.1 hz with rfl | hz
  ·refine ⟨?_, hn⟩
   unfold PBx at hk ⊢
   dsimp only
   rw [heap_setCell_same w k j _ _ v hk]
   match j with
   | 0 => rfl
   | 1 => rfl
   | j + 2 => simp
  ·have hz1 := h.box z (List.mem_cons_of_mem _ hz)
   exact ⟨(heap_setCell_other w ⟨k, j, none⟩ z.1 v (fun e => hd z hz e)).trans hz1.1, hz1.2⟩
 ·intro z hz
  rcases List.mem_cons.1 hz with rfl | hz
  ·exact hw
  ·exact h.new z (List.mem_cons_of_mem _ hz)
theorem BS.sub {own0 : Nat → Prop} {W0 w : World} {g : Nat} {s : ByteArray} {b : Bs} {bx by' : List (Nat × Value × Value)} (h : BS own0 W0 g s b bx w) (hs : ∀ x ∈ by', x ∈ bx) : BS own0 W0 g s b by' w := by
 obtain ⟨own, h⟩ := h
 exact ⟨own, h.bld, h.stp, fun x hx => h.box x (hs x hx), fun x hx => h.new x (hs x hx)⟩
theorem BS.dist {own0 : Nat → Prop} {W0 w : World} {g : Nat} {s : ByteArray} {b : Bs} {bx : List (Nat × Value × Value)} (h : BS own0 W0 g s b bx w) : ∀ z ∈ bx, z.1 < w.heap.size := by
 obtain ⟨own, h⟩ := h
 exact fun z hz => (h.box z hz).1.lt
def PartPost (own0 : Nat → Prop) (W0 : World) (g : Nat) (s : ByteArray) (r : Bs × (Nat × Nat)) (e : Ending) (w' : World) : Prop :=
 e = .returned (.agg #[.int .i64 (r.2.1 : Nat), .int .i64 (r.2.2 : Nat)]) ∧ ∃ own', Bld w' g s r.1 own' ∧ Stp own0 W0 own' w'
theorem BS.done {own0 : Nat → Prop} {W0 w : World} {g : Nat} {s : ByteArray} {b : Bs} {bx : List (Nat × Value × Value)} {k p q : Nat} {x y : Value} (h : BS own0 W0 g s b bx w) (hm : (k, x, y) ∈ bx) :
  PartPost own0 W0 g s (b, (p, q)) (.returned (.agg #[.int .i64 (p : Nat), .int .i64 (q : Nat)])) (w.setCells k 0 [.int .i64 (p : Nat), .int .i64 (q : Nat)]) := by
 refine ⟨rfl, ?_⟩
 have h1 : BS own0 W0 g s b [(k, x, y)] w := h.sub (fun z hz => by rw [List.mem_singleton.1 hz]; exact hm)
 have h2 := h1.put (j := 0) (by simp) (.int .i64 (p : Nat))
 have h3 := h2.put (j := 1) (by simp) (.int .i64 (q : Nat))
 obtain ⟨own, h3⟩ := h3
 exact ⟨own, h3.bld, h3.stp⟩
theorem BS.there {own0 : Nat → Prop} {W0 w : World} {g : Nat} {s : ByteArray} {b : Bs} {bx : List (Nat × Value × Value)} {k : Nat} {x y : Value} (h : BS own0 W0 g s b bx w) (hm : (k, x, y) ∈ bx) : w.there k 0 2 := by
 obtain ⟨own, h⟩ := h
 exact part_there (h.box _ hm).1
end Go.Proofs.YtgbapkechngnmaaGreat
