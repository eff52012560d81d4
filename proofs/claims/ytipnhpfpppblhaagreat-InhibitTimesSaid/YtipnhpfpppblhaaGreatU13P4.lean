/- What several claims of this seat share: contracts of the functions that they reach. -/
import Derived.Test.YtipnhpfpppblhaaGreatU13P3
import Derived.Deep.RegionHeld3
import Derived.Lib.SliceRun
import Derived.Shelf.Spec.SlicesGrow
import Derived.Test.YtipnhpfpppblhaaGreatBox
import Derived.Test.YtipnhpfpppblhaaGreatShelf
import Derived.Laws.AppendOwn
import Derived.Deep.LoopGhost
import Derived.Lib.ConvBytes
import Derived.Lib.JoinLaws
import Derived.Laws.Tables
import Derived.Great.Walk
import Derived.Test.YtipnhpfpppblhaaGreatBox2
import Derived.Maps.OwnOps
import Derived.Maps.Views
import Derived.Test.YtipnhpfpppblhaaGreatLabelB
import Derived.Test.YtipnhpfpppblhaaGreatName
import Derived.ProofKit
import Derived.OpenShut
import Derived.Deep.Slices
import Derived.Deep.Fields
import Derived.ChangeSame
import Derived.Laws.IdiomArrays
import Derived.Maps.AppendAt
import Derived.SliceStrings
import Derived.Deep.Onto
import Derived.Lib.Walk

/- digest.New, slices.Clone at bytes, digest.Sum.Now: contracts. -/
namespace Go.Proofs.YtipnhpfpppblhaaGreat
open Go.RowKit
set_option maxHeartbeats 800000 in
theorem new_any (w : World) : Calls Tryz.prog 105 #[] w fun e w' => ∃ p, e = .returned (.pointer (some ⟨p, 0, none⟩)) ∧ w.heap.size ≤ p ∧ SumAt w' p startL (.slice none 0 0) 0 ∧ Below w.heap.size w w' := by
 go_enter Tryz.func105, Tryz.ntmps105
 go_wp2_with fail
 refine (start_any _).mono ?_
 rintro e w1 ⟨rfl, hb1⟩
 have hs : startV = #[V32 1779033703, V32 3144134277, V32 1013904242, V32 2773480762, V32 1359893119, V32 2600822924, V32 528734635, V32 1541459225] := rfl
 rw [hs]
 go_wp2
 go_ret
 exact ⟨w1.heap.size, rfl, hb1.size, ⟨rfl, heap_alloc_new _ _⟩, hb1.alloc hb1.size _⟩
theorem own_empty (w : World) (t : TypeId) : (w.alloc (.cells #[] t)).ownsRow w.heap.size t 1 (.slice (some ⟨w.heap.size, 0, none⟩) 0 0) 0 [] :=
 ⟨rfl, .inr ⟨w.heap.size, 0, #[], rfl, Nat.le_refl _, heap_alloc_new _ _, Nat.le_refl _, by decide, rfl, rfl⟩⟩
set_option maxHeartbeats 800000 in
set_option maxRecDepth 100000 in
theorem clone8 (l : List Int) (w : World) (v : Value) (h : ByAt w v l) (hl : l.length ≤ 140737488355328) :
  Calls Tryz.prog 124 #[v] w fun e w' => ∃ v', e = .returned v' ∧ w'.ownsRow w.heap.size 5 1 v' l.length (l.map V8) ∧ Below w.heap.size w w' := by
 obtain ⟨i0, hi, hz0, hz1, hz2⟩ := info_parts info_u8
 have q22 : ∀ (w : World) (a : Option Addr) (n c n' c' : Nat), (binOp .eql 100 (.slice a n c) (.slice none n' c')).run Tryz.prog w = .ok (.bool a.isNone) w := fun w a n c n' c' => Lib.run_eql_slice_nil w _ _ a n c n' c' Tryz.underlying100
 rcases h.2 with ⟨rfl, h0⟩ | ⟨a, c, rfl, hc, hr⟩
 ·have hnil : l = [] := List.length_eq_zero_iff.1 h0
  subst hnil
  go_enter Tryz.func124, Tryz.ntmps124
  go_wp2
  go_ret
  exact ⟨_, rfl, World.ownsRow_nil _ _ _ _, Below.refl _ _⟩
 ·have h1 := h.later (alloc_below w (.cells #[] 5))
  have h2 := own_empty w 5
  have hb := alloc_below w (.cells #[] 5)
  go_enter Tryz.func124, Tryz.ntmps124
  go_wp2_with (at_builtin; (refine wpList_append_rd rfl (.tmp 5) (.tmp 6) 100 rfl w.heap.size 5 i0 (.int .u8 0) 1 1 Tryz.underlying100 hi hz0 hz1 hz2 rfl (by decide) _ 0 [] rfl h2 _ l.length (l.map V8) rfl h1 (v8_cells l) (by unfold maxLen; omega) (by omega) (by simp) ?_); intro v2 w2 hown2 hgrow2)
  go_ret
  refine ⟨_, rfl, ?_, hb.grown hgrow2 hb.size (fun k hk => (h2.lt k hk).1)⟩
  have e : 0 + l.length = l.length := Nat.zero_add _
  rw [e] at hown2
  exact hown2
theorem rd_one8 (w : World) (x : Value) (t : TypeId) : RdAt (w.alloc (.cells #[x] t)) (.slice (some ⟨w.heap.size, 0, none⟩) 1 1) 1 1 [x] :=
 RdAt.mk rfl (Nat.le_refl _) (by rw [World.size_alloc]; omega) (fun j y hj => by
  have hj0 : j = 0 := by have := (List.getElem?_eq_some_iff.1 hj).1; simpa using this
  subst hj0
  have := cell_one_new w x t 0 y hj
  simpa [Addr.add] using this)
def lenL (N : Int) (k : Nat) : List Int := (List.range k).map (fun (i : Nat) => N / 2 ^ (56 - 8 * i) % 256)
theorem lenL_succ (N : Int) (k : Nat) : lenL N (k + 1) = lenL N k ++ [N / 2 ^ (56 - 8 * k) % 256] := by simp [lenL, List.range_succ]
def outAt (X : List Int) (j : Nat) : Int := X.getD (j / 4) 0 / 2 ^ (24 - 8 * (j % 4)) % 256
def outL (X : List Int) (k : Nat) : List Int := (List.range k).map (outAt X)
theorem outL_succ (X : List Int) (k : Nat) : outL X (k + 1) = outL X k ++ [outAt X k] := by simp [outL, List.range_succ]
def ORow (w : World) (g : Nat) (S : List Int) : Prop := S.length ≤ 32 ∧ w.heap[g]? = some (.cells ((S.map V8 ++ List.replicate (32 - S.length) (V8 0)).toArray) 133 (0, 0))
theorem outL_len (X : List Int) (k : Nat) : (outL X k).length = k := by simp [outL]
theorem orow_new {w : World} {g : Nat} (h : w.heap[g]? = some (.cells (Array.replicate 32 (.int .u8 0)) 133 (0, 0))) (X : List Int) : ORow w g (outL X 0) := ⟨by simp [outL], by rw [h]; rfl⟩
theorem ORow.free {w : World} {g : Nat} {S : List Int} (h : ORow w g S) (j : Nat) : w.frozen? ⟨g, j, none⟩ = false := by simp [World.frozen?, h.2]
theorem ORow.old {w : World} {g : Nat} {S : List Int} (h : ORow w g S) (k : Nat) (hk : S.length = k) (hj : k < 32) : w.cell? ⟨g, k, none⟩ = some (V8 0) := by
 subst hk
 rw [cell_row h.2, List.getElem?_toArray, List.getElem?_append_right (by simp)]
 rw [List.length_map, Nat.sub_self, List.getElem?_replicate, if_pos (by omega)]
theorem ORow.store {w : World} {g : Nat} {S : List Int} (h : ORow w g S) {k : Nat} (hk : S.length = k) (hj : k < 32) (x : Int) : ORow (w.setCell ⟨g, k, none⟩ (V8 x)) g (S ++ [x]) := by
 subst hk
 refine ⟨by simp; omega, ?_⟩
 rw [heap_setCell_same w g S.length _ _ _ h.2]
 have e : 32 - S.length = (32 - (S ++ [x]).length) + 1 := by simp; omega
 rw [e, List.replicate_succ]
 congr 2
 simp [List.setIfInBounds_toArray]
def padL (rb : List Int) (m : Nat) (cnt : Int) : List Int := rb ++ [128] ++ List.replicate m 0 ++ lenL (IntKind.u64.wrap (IntKind.u64.wrap cnt * 8)) 8
def padN (n : Nat) : Nat := if n < 56 then 55 - n else 119 - n
theorem padN_eq {n m : Nat} (h64 : m < 64) (h : (n + 1 + m) % 64 = 56) (hn : n < 64) : m = padN n := by
 unfold padN; split <;> omega
def sumOut (V bs : List Int) : List Int := outL (blocksL V bs (bs.length / 64)) 32
theorem pad_bytes {rb : List Int} (hB : ByteL rb) (m : Nat) (N : Int) : ByteL ((rb ++ [128] ++ List.replicate m 0 ++ lenL N 8) ++ []) := by
 intro x hx
 rw [List.append_nil] at hx
 simp only [List.mem_append] at hx
 rcases hx with ((h | h) | h) | h
 ·exact hB x h
 ·obtain rfl := List.mem_singleton.1 h
  omega
 ·obtain rfl := (List.mem_replicate.1 h).2
  omega
 ·simp only [lenL, List.mem_map] at h
  obtain ⟨j, _, rfl⟩ := h
  omega
set_option maxHeartbeats 4000000 in
set_option maxRecDepth 100000 in
theorem now_any (V rb : List Int) (cnt : Int) (rv : Value) (p : Nat) (w : World) (hS : SumAt w p V rv cnt) (hr : ByAt w rv rb) (hB : ByteL rb) (hl : rb.length < 64) :
  Calls Tryz.prog 107 #[.pointer (some ⟨p, 0, none⟩)] w fun e w' => e = .returned (.agg ((sumOut V (padL rb (padN rb.length) cnt)).map V8).toArray) ∧ Below w.heap.size w w' := by
 obtain ⟨h0, h1, h2, h3, h4, h5, h6, h7, rfl⟩ : ∃ h0 h1 h2 h3 h4 h5 h6 h7, V = [h0, h1, h2, h3, h4, h5, h6, h7] := by
  have hl := hS.1
  match V, hl with
  | [a, b, c, d, e, f, g, h], _ => exact ⟨a, b, c, d, e, f, g, h, rfl⟩
 obtain ⟨i0, hi, hz0, hz1, hz2⟩ := info_parts info_u8
 obtain ⟨ra, rc, rfl, _, _⟩ := RdAt.shape hr
 have hb0 := alloc_below w (.cells (Array.replicate 32 (.int .u8 0)) 133)
 have hS0 := hS.later hb0
 have hr0 := hr.later hb0
 have hR0 : (w.alloc (.cells (Array.replicate 32 (.int .u8 0)) 133)).heap[w.heap.size]? = some (.cells (Array.replicate 32 (.int .u8 0)) 133 (0, 0)) := heap_alloc_new _ _
 have hsz0 := Lib.hid (World.size_alloc w (.cells (Array.replicate 32 (.int .u8 0)) 133))
 clear hS hr
 go_enter Tryz.func107, Tryz.ntmps107
 go_upto_region 3 with fail
 change Code.wp _ _ _ _ (w.alloc (.cells (Array.replicate 32 (.int .u8 0)) 133))
 generalize w.alloc (.cells (Array.replicate 32 (.int .u8 0)) 133) = w0 at *
 have hp0 := hS0.lt
 have g : w0.cell? ⟨p, 0, none⟩ = some (V32 h0) ∧ w0.cell? ⟨p, 1, none⟩ = some (V32 h1) ∧ w0.cell? ⟨p, 2, none⟩ = some (V32 h2) ∧ w0.cell? ⟨p, 3, none⟩ = some (V32 h3) ∧ w0.cell? ⟨p, 4, none⟩ = some (V32 h4) ∧ w0.cell? ⟨p, 5, none⟩ = some (V32 h5) ∧ w0.cell? ⟨p, 6, none⟩ = some (V32 h6) ∧ w0.cell? ⟨p, 7, none⟩ = some (V32 h7) ∧ w0.cell? ⟨p, 8, none⟩ = some (.slice ra rb.length rc) :=
  ⟨hS0.word 0 (by decide), hS0.word 1 (by decide), hS0.word 2 (by decide), hS0.word 3 (by decide), hS0.word 4 (by decide), hS0.word 5 (by decide), hS0.word 6 (by decide), hS0.word 7 (by decide), hS0.rest⟩
 have KS : ∀ W, Below w0.heap.size w0 W → W.cell? ⟨p, 0, none⟩ = some (V32 h0) ∧ W.cell? ⟨p, 1, none⟩ = some (V32 h1) ∧ W.cell? ⟨p, 2, none⟩ = some (V32 h2) ∧ W.cell? ⟨p, 3, none⟩ = some (V32 h3) ∧ W.cell? ⟨p, 4, none⟩ = some (V32 h4) ∧ W.cell? ⟨p, 5, none⟩ = some (V32 h5) ∧ W.cell? ⟨p, 6, none⟩ = some (V32 h6) ∧ W.cell? ⟨p, 7, none⟩ = some (V32 h7) ∧ W.cell? ⟨p, 8, none⟩ = some (.slice ra rb.length rc) := fun W hb =>
  ⟨keep_cell g.1 hb hp0, keep_cell g.2.1 hb hp0, keep_cell g.2.2.1 hb hp0, keep_cell g.2.2.2.1 hb hp0, keep_cell g.2.2.2.2.1 hb hp0, keep_cell g.2.2.2.2.2.1 hb hp0, keep_cell g.2.2.2.2.2.2.1 hb hp0, keep_cell g.2.2.2.2.2.2.2.1 hb hp0, keep_cell g.2.2.2.2.2.2.2.2 hb hp0⟩
 have hcl : ∀ W, Below w0.heap.size w0 W → Calls Tryz.prog 124 #[.slice ra rb.length rc] W fun e w' => ∃ v', e = .returned v' ∧ w'.ownsRow w0.heap.size 5 1 v' rb.length (rb.map V8) ∧ Below W.heap.size W w' := fun W hb => (clone8 rb W _ (hr0.later hb) (by omega)).mono (fun e w' ⟨v', h1, h2, h3⟩ => ⟨v', h1, own_base h2 hb.size, h3⟩)
 have HKS := Lib.hid KS
 have HCL := Lib.hid hcl
 have HG := Lib.hid g
 clear KS hcl g
 go_cut [3] (fun s3 wx => ∃ E v2, s3 = .pointer (some ⟨E, 0, none⟩) ∧ w0.heap.size ≤ E ∧ SumAt wx E [h0, h1, h2, h3, h4, h5, h6, h7] v2 0 ∧ wx.ownsRow w0.heap.size 5 1 v2 (rb.length + 1) ((rb ++ [128]).map V8) ∧ Below w0.heap.size w0 wx)
 case first =>
  go_region_held3 (fun w' => w'.cell? ⟨p, 0, none⟩ = some (V32 h0) ∧ w'.cell? ⟨p, 1, none⟩ = some (V32 h1) ∧ w'.cell? ⟨p, 2, none⟩ = some (V32 h2) ∧ w'.cell? ⟨p, 3, none⟩ = some (V32 h3) ∧ w'.cell? ⟨p, 4, none⟩ = some (V32 h4) ∧ w'.cell? ⟨p, 5, none⟩ = some (V32 h5) ∧ w'.cell? ⟨p, 6, none⟩ = some (V32 h6) ∧ w'.cell? ⟨p, 7, none⟩ = some (V32 h7) ∧ w'.cell? ⟨p, 8, none⟩ = some (.slice ra rb.length rc))
   (first | exact HG.out | exact HKS.out _ ((Below.refl _ _).drew) | exact HKS.out _ (((Below.refl w0.heap.size w0).drew).alloc (Nat.le_refl _) _) | exact HKS.out _ hB2 | exact HKS.out _ hB1 | exact HKS.out _ (hB1.alloc hB1.size _) | exact HKS.out _ (hB2.alloc hB2.size _))
   (first
    | (refine step_append_rd (by rfl) (.tmp 19) (.tmp 20) _ (by rfl) w0.heap.size 5 i0 (.int .u8 0) 1 1 Tryz.underlying100 hi hz0 hz1 hz2 rfl (by decide) _ rb.length (rb.map V8) (by rfl) (by first | exact hown1 | exact own_later hown1 ((Below.refl _ _).alloc (Nat.le_refl _) _)) _ 1 [V8 128] (by rfl) (by first | exact rd_one8 w1 (V8 128) 5 | exact RdAt.later (w := (w0.alloc (.cells #[V8 128] 5)).drew) (rd_one8 w0 (V8 128) 5) hb1) (by simp [Value.oneCell']) (by unfold maxLen; omega) (by omega) (by first | exact hB1.size | exact Nat.le_trans hB1.size (by simp)) ?_; intro v2 w2 hown2 hgrow2 _; obtain ⟨a2, c2, rfl, _, _⟩ := RdAt.shape (RdAt.own hown2); have hB2 : Below w0.heap.size w0 w2 := by first | exact hB1.grown hgrow2 hB1.size (fun m hm => (hown1.lt m hm).1) | exact (hB1.alloc hB1.size _).grown hgrow2 (Nat.le_trans hB1.size (by simp)) (fun m hm => (hown1.lt m hm).1))
    | (go_at_call 124; refine (HCL.out _ (by first | exact (Below.refl _ _).drew | exact ((Below.refl w0.heap.size w0).drew).alloc (Nat.le_refl _) _)).mono ?_; rintro e w1 ⟨v1, rfl, hown1, hb1⟩; have hB1 : Below w0.heap.size w0 w1 := by first | exact ((Below.refl _ _).drew).trans hb1 | exact (((Below.refl w0.heap.size w0).drew).alloc (Nat.le_refl _) _).trans (hb1.mono (by simp))))
  all_goals (
   clear hown1 hgrow2 hb1 hB1
   go_wp2
   go_meet
   exact ⟨_, _, rfl, hB2.size, ⟨rfl, heap_alloc_new _ _⟩, by rw [List.map_append]; exact own_later hown2 (alloc_below _ _), hB2.alloc hB2.size _⟩)
 case rest =>
  obtain ⟨E, v2, rfl, hE, hSE, hown, hbE⟩ := hcut
  obtain ⟨M, hM1, hM2⟩ : ∃ M, (rb.length + 1 + M) % 64 = 56 ∧ ∀ m, m < M → (rb.length + 1 + m) % 64 ≠ 56 := by
   rcases Nat.lt_or_ge 55 rb.length with h | h
   ·exact ⟨119 - rb.length, by omega, fun m hm => by omega⟩
   ·exact ⟨55 - rb.length, by omega, fun m hm => by omega⟩
  have hM64 : M < 64 := by
   rcases Nat.lt_or_ge M 64 with h | h
   ·exact h
   ·rcases Nat.lt_or_ge 55 rb.length with h' | h'
    ·exact absurd (by omega) (hM2 (119 - rb.length) (by omega))
    ·exact absurd (by omega) (hM2 (55 - rb.length) (by omega))
  have HR0 := Lib.hid hR0
  have hSE' := Lib.hid hSE
  have hown' := Lib.hid hown
  have HS0 := Lib.hid hS0
  clear hSE hown HKS HCL HG hS0 hr0 hR0
  go_wp2
  go_loopw [24] (fun _ wr => ∃ (m n : Nat) (v : Value), m ≤ M ∧ n = rb.length + 1 + m ∧ Hid (SumAt wr E [h0, h1, h2, h3, h4, h5, h6, h7] v 0) ∧ Hid (wr.ownsRow w0.heap.size 5 1 v n ((rb ++ [128] ++ List.replicate m 0).map V8)) ∧ Below w0.heap.size w0 wr) (fun _ wr => rb.length + 1 + M - restLen wr E)
  case atStart => exact ⟨0, rb.length + 1, v2, Nat.zero_le _, rfl, hSE', Lib.hid (by simpa using hown'.out), hbE⟩
  case round =>
   obtain ⟨m, n, v, hm, hn, HS, HO, hbr⟩ := hrel
   have HNn := Lib.hid hn
   have hn70 : n ≤ 200 := by omega
   clear hn
   obtain ⟨a2, c2, rfl, hc2, _⟩ := RdAt.shape (RdAt.own HO.out)
   have g8 := HS.out.rest
   have hrl := HS.out.restLen
   have hne1 : (Value.slice a2 n c2).ownBlock ≠ some E := row_apart HO.out HS.out.2 (by decide)
   by_cases hmM : m < M
   ·have hne := hM2 m hmM
    have hnb : ((n : Int) % 64 != 56) = true := by rw [bne_iff_ne]; have := HNn.out; omega
    have hrd := rd_one8 wr (V8 0) 5
    have hoa := own_later HO.out (alloc_below wr (.cells #[V8 0] 5))
    have hSa := HS.out.later (alloc_below wr (.cells #[V8 0] 5))
    have hba := hbr.alloc hbr.size (.cells #[V8 0] 5)
    go_wp2_with (at_builtin; (refine wpList_append_rd rfl (.tmp 35) (.tmp 36) 100 rfl w0.heap.size 5 i0 (.int .u8 0) 1 1 Tryz.underlying100 hi hz0 hz1 hz2 rfl (by decide) _ _ _ rfl hoa _ 1 [V8 0] rfl hrd (by simp [Value.oneCell']) (by unfold maxLen; omega) (by omega) hba.size ?_); intro v3 w3 hown3 hgrow3; obtain ⟨a3, c3, rfl, _, _⟩ := RdAt.shape (RdAt.own hown3); have hS3 := hSa.of_heap (hgrow3.block E hSa.lt (fun e => hne1 e.symm)); have g8' := hS3.rest; have f8' := hS3.free 8)
    have hb3 := hba.grown hgrow3 hba.size (fun k hk => (hoa.lt k hk).1)
    have hne3 := row_apart hown3 hS3.2 (by decide)
    have hS4 := Lib.hid (hS3.setRest (.slice a3 (n + 1) c3))
    have hg4 := grown_setCell w3 E 8 (.slice a3 (n + 1) c3)
    have hO4 := Lib.hid (hown3.kept hg4 (.inr hne3))
    have hb4 := hb3.trans (below_row hg4 hE hb3.size)
    have hrl4 := hS4.out.restLen
    clear hS3 g8' f8' hown3 hgrow3 hg4 hoa hSa hba hrd
    generalize w3.setCell ⟨E, 8, none⟩ (.slice a3 (n + 1) c3) = w4 at *
    go_wp2
    go_roundw
    case rel =>
     refine ⟨m + 1, n + 1, _, by omega, by have := HNn.out; omega, hS4, Lib.hid ?_, hb4⟩
     have := hO4.out
     rw [List.replicate_succ', ← List.append_assoc, List.map_append]
     exact this
    case measure => rw [hrl4, hrl]; have := HNn.out; omega
   ·obtain rfl : m = M := by omega
    have hnb : ((n : Int) % 64 != 56) = false := by rw [bne_eq_false_iff_eq]; have := HNn.out; omega
    have g9 := (HS0.out.later hbr).count
    go_wp2
    have HM56 := Lib.hid hM1
    have HM64 := Lib.hid hM64
    clear g8 hrl hne1 hnb hM1 hM2 hM64 hm hmM g9 hown' hSE' HNn
    obtain ⟨N, hN⟩ : ∃ N, IntKind.u64.wrap (IntKind.u64.wrap cnt * 8) = N := ⟨_, rfl⟩
    rw [hN]
    have HN := Lib.hid hN
    clear hN
    obtain ⟨L, hL⟩ : ∃ L, rb ++ [128] ++ List.replicate m 0 = L := ⟨_, rfl⟩
    have HL := Lib.hid hL
    rw [hL] at HO
    clear hL
    have HBL : Hid (ByteL ((L ++ lenL N 8) ++ [])) := Lib.hid (by rw [← HL.out]; exact pad_bytes hB m N)
    go_loopw [46] (fun i wr => ∃ (k n' : Nat) (v : Value), k ≤ 8 ∧ i = .int .i64 k ∧ n' = n + k ∧ Hid (SumAt wr E [h0, h1, h2, h3, h4, h5, h6, h7] v 0) ∧ Hid (wr.ownsRow w0.heap.size 5 1 v n' ((L ++ lenL N k).map V8)) ∧ Below w0.heap.size w0 wr) (fun i _ => 8 - (intOf i).toNat)
    case atStart => exact ⟨0, n, _, Nat.zero_le _, rfl, rfl, HS, Lib.hid (by simpa [lenL] using HO.out), hbr⟩
    case round =>
     clear HS HO hbr
     obtain ⟨k, n', v, hk, rfl, hn', HS, HO, hbr⟩ := hrel
     have hn270 : n' ≤ 300 := by omega
     have HNn := Lib.hid hn'
     clear hn'
     obtain ⟨a2, c2, rfl, hc2, _⟩ := RdAt.shape (RdAt.own HO.out)
     have g8 := HS.out.rest
     have hne1 : (Value.slice a2 n' c2).ownBlock ≠ some E := row_apart HO.out HS.out.2 (by decide)
     by_cases hk8 : k < 8
     ·have hI : (k : Int) < 8 := by omega
      have q1 : IntKind.i64.wrap (8 * (k : Int)) = 8 * (k : Int) := by rw [IntKind.wrap_i64]; omega
      obtain ⟨s, hs⟩ : ∃ s, 56 - 8 * (k : Int) = s := ⟨_, rfl⟩
      have q2 : IntKind.i64.wrap (56 - 8 * (k : Int)) = s := by rw [IntKind.wrap_i64]; omega
      have hs0 : 0 ≤ s := by omega
      have hs1 : s ≤ 64 := by omega
      obtain ⟨x, hx⟩ : ∃ x, IntKind.u8.wrap (N / 2 ^ s.toNat) = x := ⟨_, rfl⟩
      have HX : Hid (x = N / 2 ^ (56 - 8 * k) % 256) := Lib.hid (by rw [← hx, IntKind.wrap_u8']; congr 2; congr 1; omega)
      have hrd := rd_one8 wr (V8 x) 5
      have hoa := own_later HO.out (alloc_below wr (.cells #[V8 x] 5))
      have hSa := HS.out.later (alloc_below wr (.cells #[V8 x] 5))
      have hba := hbr.alloc hbr.size (.cells #[V8 x] 5)
      clear hs
      go_upto_region 10 with fail
      refine wp_region_heldS 15 (S := fun W : World => W.cell? ⟨E, 8, none⟩ = some (.slice a2 n' c2)) (by kernel_rfl) g8 (fun hHeld => ?_)
      refine heldS_take (i := 0) (v := ?_) rfl rfl (by kernel_rfl) (by kernel_rfl) (by kernel_rfl) (by kernel_rfl) (by kernel_rfl) (fun _ _ _ h => h) (by rfl) hHeld ?_ ?_
      rotate_left
      ·rintro wh hcw
       go_simp
       (try with_reducible rfl)
      simp only [Act.put, List.setIfInBounds_toArray, List.set_cons_zero, List.set_cons_succ]
      refine heldS_take (i := 1) (v := ?_) rfl rfl (by kernel_rfl) (by kernel_rfl) (by kernel_rfl) (by kernel_rfl) (by kernel_rfl) (fun _ _ _ h => h) (by rfl) hHeld ?_ ?_
      rotate_left
      ·rintro wh hcw
       go_simp
       (try with_reducible rfl)
      simp only [Act.put, List.setIfInBounds_toArray, List.set_cons_zero, List.set_cons_succ]
      refine heldS_take (i := 2) (v := ?_) rfl rfl (by kernel_rfl) (by kernel_rfl) (by kernel_rfl) (by kernel_rfl) (by kernel_rfl) (fun _ _ _ h => h) (by rfl) hHeld ?_ ?_
      rotate_left
      ·rintro wh hcw
       go_simp
       (try with_reducible rfl)
      simp only [Act.put, List.setIfInBounds_toArray, List.set_cons_zero, List.set_cons_succ]
      refine heldS_take (i := 3) (v := ?_) rfl rfl (by kernel_rfl) (by kernel_rfl) (by kernel_rfl) (by kernel_rfl) (by kernel_rfl) (fun _ _ _ h => h) (by rfl) hHeld ?_ ?_
      rotate_left
      ·rintro wh hcw
       go_simp
       (try with_reducible rfl)
      simp only [Act.put, List.setIfInBounds_toArray, List.set_cons_zero, List.set_cons_succ]
      refine heldS_take (i := 4) (v := ?_) rfl rfl (by kernel_rfl) (by kernel_rfl) (by kernel_rfl) (by kernel_rfl) (by kernel_rfl) (fun _ _ _ h => h) (by rfl) hHeld ?_ ?_
      rotate_left
      ·rintro wh hcw
       go_simp
       (try with_reducible rfl)
      simp only [Act.put, List.setIfInBounds_toArray, List.set_cons_zero, List.set_cons_succ]
      refine heldS_take (i := 5) (v := ?_) rfl rfl (by kernel_rfl) (by kernel_rfl) (by kernel_rfl) (by kernel_rfl) (by kernel_rfl) (fun _ _ _ h => h) (by rfl) hHeld ?_ ?_
      rotate_left
      ·rintro wh hcw
       go_simp
       (try with_reducible rfl)
      simp only [Act.put, List.setIfInBounds_toArray, List.set_cons_zero, List.set_cons_succ]
      refine heldS_take (i := 6) (v := ?_) rfl rfl (by kernel_rfl) (by kernel_rfl) (by kernel_rfl) (by kernel_rfl) (by kernel_rfl) (fun _ _ _ h => h) (by rfl) hHeld ?_ ?_
      rotate_left
      ·rintro wh hcw
       go_simp
       (try with_reducible rfl)
      simp only [Act.put, List.setIfInBounds_toArray, List.set_cons_zero, List.set_cons_succ]
      refine heldS_take (i := 7) (v := ?_) rfl rfl (by kernel_rfl) (by kernel_rfl) (by kernel_rfl) (by kernel_rfl) (by kernel_rfl) (fun _ _ _ h => h) (by rfl) hHeld ?_ ?_
      rotate_left
      ·rintro wh hcw
       go_simp
       (try with_reducible rfl)
      simp only [Act.put, List.setIfInBounds_toArray, List.set_cons_zero, List.set_cons_succ]
      refine heldS_take (i := 8) (v := ?_) rfl rfl (by kernel_rfl) (by kernel_rfl) (by kernel_rfl) (by kernel_rfl) (by kernel_rfl) (fun _ _ _ h => h) (by rfl) hHeld ?_ ?_
      rotate_left
      ·rintro wh hcw
       go_simp
       (try with_reducible rfl)
      simp only [Act.put, List.setIfInBounds_toArray, List.set_cons_zero, List.set_cons_succ]
      refine heldS_take (i := 9) (v := ?_) rfl rfl (by kernel_rfl) (by kernel_rfl) (by kernel_rfl) (by kernel_rfl) (by kernel_rfl) (fun _ _ _ h => h) (by rfl) hHeld ?_ ?_
      rotate_left
      ·rintro wh hcw
       go_simp
       (try with_reducible rfl)
      simp only [Act.put, List.setIfInBounds_toArray, List.set_cons_zero, List.set_cons_succ]
      refine heldS_take (i := 10) (v := ?_) rfl rfl (by kernel_rfl) (by kernel_rfl) (by kernel_rfl) (by kernel_rfl) (by kernel_rfl) (fun _ _ _ h => h) (by rfl) hHeld ?_ ?_
      rotate_left
      ·rintro wh hcw
       go_simp
       (try with_reducible rfl)
      simp only [Act.put, List.setIfInBounds_toArray, List.set_cons_zero, List.set_cons_succ]
      refine heldS_step (i := 11) rfl (by kernel_rfl) (fun K hK => ?_)
      go_simp
      refine hK.out _ _ hSa.rest (fun hHeld => ?_)
      clear hK K
      (try simp only [Act.put, List.setIfInBounds_toArray])
      refine heldS_step (i := 12) rfl (by kernel_rfl) (fun K hK => ?_)
      (refine step_append_rd (by rfl) (.tmp 53) (.tmp 60) _ (by rfl) w0.heap.size 5 i0 (.int .u8 0) 1 1 Tryz.underlying100 hi hz0 hz1 hz2 rfl (by decide) _ _ _ (by rfl) hoa _ 1 [V8 x] (by rfl) hrd (by simp [Value.oneCell']) (by unfold maxLen; omega) (by omega) hba.size ?_); intro v3 w3 hown3 hgrow3 _; obtain ⟨a3, c3, rfl, _, _⟩ := RdAt.shape (RdAt.own hown3); have hS3 := hSa.of_heap (hgrow3.block E hSa.lt (fun e => hne1 e.symm)); have g8' := hS3.rest; have f8' := hS3.free 8
      refine hK.out _ _ g8' (fun hHeld => ?_)
      clear hK K
      (try simp only [Act.put, List.setIfInBounds_toArray])
      refine heldS_step (i := 13) rfl (by kernel_rfl) (fun K hK => ?_)
      go_simp
      refine hK.out _ _ g8' (fun hHeld => ?_)
      clear hK K
      (try simp only [Act.put, List.setIfInBounds_toArray])
      refine heldS_step (i := 14) rfl (by kernel_rfl) (fun K hK => ?_)
      go_simp
      refine hK.out _ _ g8' (fun hHeld => ?_)
      clear hK K
      (try simp only [Act.put, List.setIfInBounds_toArray])
      refine heldS_last (i := 15) rfl (by kernel_rfl) (by kernel_rfl) (fun K hK => ?_)
      go_simp
      refine hK.out _ _ ?_
      clear hK K
      (try simp only [Act.put, List.setIfInBounds_toArray])
      refine wpAnyEnd_done (by kernel_rfl) ?_ _
      have hb3 := hba.drew.grown hgrow3 hba.size (fun k hk => (hoa.lt k hk).1)
      have hne3 := row_apart hown3 hS3.2 (by decide)
      have hS4 := Lib.hid (hS3.setRest (.slice a3 (n' + 1) c3))
      have hg4 := grown_setCell w3 E 8 (.slice a3 (n' + 1) c3)
      have hO4 := Lib.hid (hown3.kept hg4 (.inr hne3))
      have hb4 := hb3.trans (below_row hg4 hE hb3.size)
      clear hS3 g8' f8' hown3 hgrow3 hg4 hoa hSa hba hrd g8 hb3 hne3 HS HO hbr hHeld q1 q2 hs0 hs1 hx
      change Exit.inBlock _ _ _ _ (w3.setCell ⟨E, 8, none⟩ (.slice a3 (n' + 1) c3))
      generalize w3.setCell ⟨E, 8, none⟩ (.slice a3 (n' + 1) c3) = w4 at *
      go_wp2
      go_roundw
      case rel =>
       refine ⟨k + 1, n' + 1, _, by omega, by go_num, by have := HNn.out; omega, hS4, Lib.hid ?_, hb4⟩
       rw [lenL_succ, ← HX.out, ← List.append_assoc, List.map_append]
       exact hO4.out
      case measure => (simp [intOf]; try omega)
     ·obtain rfl : k = 8 := by omega
      rw [show ((8 : Nat) : Int) = 8 from rfl]
      have hLl : Hid ((L ++ lenL N 8).length = n') := Lib.hid (by have := HO.out.1; rw [List.length_map] at this; omega)
      have hadd := add_any [h0, h1, h2, h3, h4, h5, h6, h7] (L ++ lenL N 8) [] 0 (.slice a2 n' c2) (.slice none 0 0) E w0.heap.size wr HS.out (by rw [hLl.out]; exact HO.out) (RdAt.nil _ _) HBL.out (by simp [Value.ownBlock]) hE hbr.size (by rw [hLl.out]; simp; omega) (by simp)
      clear g8 hne1
      go_wp2_with fail
      refine hadd.mono ?_
      rintro e wa ⟨rv', kk, rfl, hkk, hSA, _, hba⟩
      obtain ⟨X, hX⟩ : ∃ X, blocksL [h0, h1, h2, h3, h4, h5, h6, h7] ((L ++ lenL N 8) ++ []) kk = X := ⟨_, rfl⟩
      rw [hX] at hSA
      have HXX : Hid (X = blocksL [h0, h1, h2, h3, h4, h5, h6, h7] (padL rb m cnt) ((padL rb m cnt).length / 64)) := Lib.hid (by rw [← hX, hkk, List.append_nil, ← HL.out, ← HN.out]; rfl)
      have hbA := hbr.trans hba
      have hR1' := Lib.hid ((hbA.block w.heap.size (by rw [hsz0.out]; omega)).trans HR0.out)
      have hSA2 := hSA.later (alloc_below wa (.cells (Array.replicate 32 (.int .u8 0)) 133))
      have hbA2 := hbA.alloc hbA.size (.cells (Array.replicate 32 (.int .u8 0)) 133)
      have hO2 : (wa.alloc (.cells (Array.replicate 32 (.int .u8 0)) 133)).heap[wa.heap.size]? = some (.cells (Array.replicate 32 (.int .u8 0)) 133 (0, 0)) := heap_alloc_new _ _
      have hEO : E < wa.heap.size := hSA.lt
      have hbw : w0.heap.size ≤ wa.heap.size := hbA.size
      clear hX hkk hSA hba hadd HBL hLl HO HS hbr hbA
      generalize (0 : Int) + (([] : List Int).length : Int) = cz at *
      have HSA := Lib.hid hSA2
      have HO3 : Hid (ORow (wa.alloc (.cells (Array.replicate 32 (.int .u8 0)) 133)) wa.heap.size (outL X 0)) := Lib.hid (orow_new hO2 X)
      have HbA := Lib.hid hbA2
      have HR2 : Hid ((wa.alloc (.cells (Array.replicate 32 (.int .u8 0)) 133)).heap[w.heap.size]? = some (.cells (Array.replicate 32 (.int .u8 0)) 133 (0, 0))) := Lib.hid ((hbA2.block w.heap.size (by rw [hsz0.out]; omega)).trans HR0.out)
      clear hSA2 hO2 hbA2 hR1'
      go_wp2
      obtain ⟨O, hO⟩ : ∃ O, O = wa.heap.size := ⟨_, rfl⟩
      have HOO := Lib.hid hO
      rw [← hO] at HO3 hEO hbw ⊢
      clear hO
      go_loopw [67] (fun i wr => ∃ (k : Nat), k ≤ 32 ∧ i = .int .i64 k ∧ Hid (SumAt wr E X rv' cz) ∧ Hid (ORow wr O (outL X k)) ∧ Hid (wr.heap[w.heap.size]? = some (.cells (Array.replicate 32 (.int .u8 0)) 133 (0, 0))) ∧ Hid (Below w0.heap.size w0 wr)) (fun i _ => 32 - (intOf i).toNat)
      case atStart => exact ⟨0, Nat.zero_le _, rfl, HSA, HO3, HR2, HbA⟩
      case round =>
       clear HSA HO3 HR2 HbA
       obtain ⟨k, hk, rfl, HS, HO, HR, HB⟩ := hrel
       by_cases hkl : k < 32
       ·obtain ⟨q, hq⟩ : ∃ q, k / 4 = q := ⟨_, rfl⟩
        have hq1 : (k : Int) / 4 = (q : Int) := by omega
        have hq8 : q < 8 := by omega
        have hI1 : (q : Int) < 8 := by omega
        have hI2 : (k : Int) < 32 := by omega
        have g1 := HS.out.word q hq8
        obtain ⟨y, hy⟩ : ∃ y, X.getD q 0 = y := ⟨_, rfl⟩
        rw [hy] at g1
        obtain ⟨m8, hm8⟩ : ∃ m : Int, 8 * ((k : Int) % 4) = m := ⟨_, rfl⟩
        have q1 : IntKind.i64.wrap (8 * ((k : Int) % 4)) = m8 := by rw [IntKind.wrap_i64]; omega
        obtain ⟨s, hs⟩ : ∃ s : Int, 24 - m8 = s := ⟨_, rfl⟩
        have q2 : IntKind.i64.wrap (24 - m8) = s := by rw [IntKind.wrap_i64]; omega
        have hs0 : 0 ≤ s := by omega
        have hs1 : s ≤ 32 := by omega
        obtain ⟨x, hx⟩ : ∃ x, IntKind.u8.wrap (y / 2 ^ s.toNat) = x := ⟨_, rfl⟩
        have HX2 : Hid (x = outAt X k) := Lib.hid (by rw [← hx, IntKind.wrap_u8']; unfold outAt; rw [hq, hy]; congr 3; omega)
        have g2 := HO.out.old k (by simp [outL]) hkl
        have f2 := HO.out.free k
        have HST := Lib.hid (HO.out.store (k := k) (by simp [outL]) hkl x)
        have hS2 := Lib.hid (HS.out.of_heap (w' := wr.setCell ⟨O, k, none⟩ (V8 x)) (heap_setCell_other wr ⟨O, k, none⟩ E _ (by show E ≠ O; omega)))
        have hR2 := Lib.hid ((heap_setCell_other wr ⟨O, k, none⟩ w.heap.size (V8 x) (by have := hsz0.out; show w.heap.size ≠ O; omega)).trans HR.out)
        have hB2 := Lib.hid (HB.out.trans (below_setCell (B := w0.heap.size) wr O k (V8 x) (by omega)))
        clear hq hm8 hs hy HS HO HR HB
        go_wp2
        go_roundw
        case rel =>
         refine ⟨k + 1, by omega, by go_num, hS2, Lib.hid ?_, hR2, hB2⟩
         rw [outL_succ, ← HX2.out]
         exact HST.out
        case measure => (simp [intOf]; try omega)
       ·obtain rfl : k = 32 := by omega
        rw [show ((32 : Nat) : Int) = 32 from rfl]
        have hO5 : wr.heap[O]? = some (.cells ((outL X 32).map V8).toArray 133 (0, 0)) := by have := HO.out.2; rw [outL_len] at this; simpa using this
        go_upto_region 19 with fail
        have hOl : ((outL X 32).map V8).toArray.size = 32 := by simp [outL]
        have hI9 : (Tryz.prog.info? 133).map (·.size) = some ((outL X 32).map V8).toArray.size := by rw [hOl]; kernel_rfl
        apply wp_region_lit
        refine wpList_load_row rfl 133 (.tmp 6) rfl O rfl 133 ((outL X 32).map V8).toArray (0, 0) _ hO5 Tryz.underlying133 rfl hI9 ?_
        refine wpList_store_row rfl 133 (.tmp 2) (.tmp 86) rfl w.heap.size ((outL X 32).map V8).toArray rfl rfl 133 _ HR.out hI9 (by rw [hOl]; rfl) (all_oneCell_toArray (v8_cells _)) ?_
        have hg2 := setRow_heap wr w.heap.size _ ((outL X 32).map V8).toArray _ _ HR.out
        have hb2 : Below w.heap.size w (wr.setRow w.heap.size ((outL X 32).map V8).toArray) := below_setRow (hb0.trans (HB.out.mono hb0.size)) (Nat.le_refl _) _
        generalize wr.setRow w.heap.size ((outL X 32).map V8).toArray = w1 at *
        have hfin : outL X 32 = sumOut [h0, h1, h2, h3, h4, h5, h6, h7] (padL rb m cnt) := by unfold sumOut; rw [← HXX.out]
        have hm56 : (rb.length + 1 + m) % 64 = 56 := HM56.out
        simp only [Act.put, List.setIfInBounds_toArray, List.set_cons_zero, List.set_cons_succ]
        show Exit.then _ _ Exit.normal _ _
        simp only [Exit.then]
        refine (by assumption : ∀ (a : Act) (w : World), Code.wp _ Code.ret _ a w → _) _ _ ?_
        go_wp2
        refine bodyPost_ret (results_cell_row rfl _ _ w.heap.size 133 ((outL X 32).map V8).toArray (0, 0) (.array 32 5) rfl hg2 Tryz.underlying133 rfl hI9) rfl ?_
        refine ⟨?_, hb2⟩
        rw [hfin, padN_eq HM64.out hm56 hl]
end Go.Proofs.YtipnhpfpppblhaaGreat
/- slices.Concat at []byte: a contract. -/
namespace Go.Proofs.YtipnhpfpppblhaaGreat
open Go.RowKit Go.Sort
theorem grow_any (n : Nat) (w : World) (h0 : 0 < n) (hn : n ≤ 4000000) :
  Calls Tryz.prog 88 #[.slice none 0 0, .int .i64 n] w fun e w' => ∃ g cap, e = .returned (.slice (some ⟨g, 0, none⟩) 0 cap) ∧ w'.ownsRow w.heap.size 5 1 (.slice (some ⟨g, 0, none⟩) 0 cap) 0 [] ∧ Below w.heap.size w w' := by
 obtain ⟨i0, hi, hz0, hz1, hz2⟩ := info_parts info_u8
 have h := Any8.slices_Grow_grow Tryz.lays8n4b i0 (.int .u8 0) hi hz0 (by rw [hz1]; decide) none 0 0 n [] w (Nat.le_refl _) (by omega) (by rw [hz2]; omega) (by omega) (by simp) (fun _ => rfl) (fun _ h => by cases h)
 refine Calls.mono h ?_
 rintro e w' ⟨rfl, rfl⟩
 refine ⟨_, _, rfl, ⟨rfl, .inr ⟨w.heap.size, _, _, rfl, Nat.le_refl _, heap_alloc_new _ _, Nat.zero_le _, grownCap_le_maxLen _ _ _ _ (by unfold maxLen; omega), ?_, by simp⟩⟩, ((Below.refl _ _).drew).alloc (Nat.le_refl _) _⟩
 have hge := grownCap_ge w (0 + n) 0 (Tryz.lays8n4b_ren.t 25)
 have e1 : (Value.int IntKind.u8 0).cells.size = 1 := rfl
 simp [Builtin.zeroCells, e1] at hge ⊢
 omega
def SlsAt (w : World) (a : Addr) (ls : List (Value × List Int)) : Prop :=
 ∃ b o, a = ⟨b, o, none⟩ ∧ b < w.heap.size ∧ ∀ j (h : j < ls.length), w.cell? ⟨b, o + j, none⟩ = some ls[j].1 ∧ ByAt w ls[j].1 ls[j].2
def sumL (ls : List (Value × List Int)) : List Int := ls.flatMap (·.2)
theorem sumL_take {ls : List (Value × List Int)} {k : Nat} (h : k < ls.length) : sumL (ls.take (k + 1)) = sumL (ls.take k) ++ ls[k].2 := by
 unfold sumL
 rw [List.take_succ_eq_append_getElem h, List.flatMap_append]; simp
theorem sumL_le (ls : List (Value × List Int)) (k : Nat) : (sumL (ls.take k)).length ≤ (sumL ls).length := by
 have : sumL ls = sumL (ls.take k) ++ sumL (ls.drop k) := by unfold sumL; rw [← List.flatMap_append, List.take_append_drop]
 rw [this, List.length_append]; omega
set_option maxHeartbeats 1600000 in
set_option maxRecDepth 10000000 in
theorem concat_any (ls : List (Value × List Int)) (a : Addr) (c : Nat) (w : World) (hls : SlsAt w a ls) (hne : 0 < (sumL ls).length) (hl : (sumL ls).length ≤ 4000000) (hn : ls.length ≤ 4000000) :
  Calls Tryz.prog 60 #[.slice (some a) ls.length c] w fun e w' => ∃ v, e = .returned v ∧ w'.ownsRow w.heap.size 5 1 v (sumL ls).length ((sumL ls).map V8) ∧ Below w.heap.size w w' := by
 obtain ⟨b, o, rfl, hb, hcell⟩ := hls
 obtain ⟨i0, hi, hz0, hz1, hz2⟩ := info_parts info_u8
 have HC := Lib.hid hcell
 clear hcell
 go_enter Tryz.func60, Tryz.ntmps60
 go_wp2
 go_loopw [3, 11] (fun s i wr => ∃ k t : Nat, k ≤ ls.length ∧ i = .int .i64 k ∧ s = .int .i64 t ∧ t ≤ 4000000 ∧ Hid (t = (sumL (ls.take k)).length) ∧ Below w.heap.size w wr) (fun _ i _ => ls.length - (intOf i).toNat)
 case atStart => exact ⟨0, 0, Nat.zero_le _, rfl, rfl, by omega, Lib.hid rfl, Below.refl _ _⟩
 case round =>
  obtain ⟨k, t, hk, rfl, rfl, ht, HT, hbr⟩ := hrel
  by_cases hkl : k < ls.length
  ·obtain ⟨h1, h2⟩ := HC.out k hkl
   obtain ⟨x, hx⟩ : ∃ x, ls[k] = x := ⟨_, rfl⟩
   have HN : Hid (t + x.2.length = (sumL (ls.take (k + 1))).length) := by show _ = _; rw [sumL_take hkl, List.length_append, HT.out, hx]
   have hle : t + x.2.length ≤ 4000000 := by rw [HN.out]; exact Nat.le_trans (sumL_le ls (k + 1)) hl
   rw [hx] at h1 h2
   obtain ⟨va, vl⟩ := x
   obtain ⟨a1, c1, hva, hc1, _⟩ := RdAt.shape h2
   dsimp only at hva hc1
   subst hva
   have hcr : wr.cell? ⟨b, o + k, none⟩ = some (.slice a1 vl.length c1) := keep_cell h1 hbr hb
   have hle' : (t : Int) + (vl.length : Int) ≤ 4000000 := by dsimp only at hle; omega
   clear h1 h2 hx HT
   go_wp2
   go_roundw
   case rel => exact ⟨k + 1, t + vl.length, by omega, by go_num, by go_num, hle, HN, hbr⟩
   case measure => (simp [intOf]; try omega)
  ·obtain rfl : k = ls.length := by omega
   obtain rfl : t = (sumL ls).length := by rw [HT.out, List.take_length]
   clear HT
   have hg := grow_any (sumL ls).length wr hne hl
   go_wp2_with fail
   refine hg.mono ?_
   rintro e w1 ⟨g, cap, rfl, hown, hb1⟩
   have hown1 := own_base hown hbr.size
   have hbr1 := hbr.trans (hb1.mono hbr.size)
   clear hg hown hbr hb1
   go_wp2
   go_loopw [6, 27] (fun v i wr => ∃ k : Nat, k ≤ ls.length ∧ i = .int .i64 k ∧ wr.ownsRow w.heap.size 5 1 v (sumL (ls.take k)).length ((sumL (ls.take k)).map V8) ∧ Below w.heap.size w wr) (fun _ i _ => ls.length - (intOf i).toNat)
   case atStart => exact ⟨0, Nat.zero_le _, rfl, hown1, hbr1⟩
   case round =>
    obtain ⟨k, hk, rfl, hown, hbr⟩ := hrel
    by_cases hkl : k < ls.length
    ·obtain ⟨h1, h2⟩ := HC.out k hkl
     have e1 := sumL_take hkl
     have hle1 : (sumL (ls.take (k + 1))).length ≤ 4000000 := Nat.le_trans (sumL_le ls (k + 1)) hl
     obtain ⟨x, hx⟩ : ∃ x, ls[k] = x := ⟨_, rfl⟩
     rw [hx] at h1 h2 e1
     obtain ⟨va, vl⟩ := x
     have hcr : wr.cell? ⟨b, o + k, none⟩ = some va := keep_cell h1 hbr hb
     have hrd : ByAt wr va vl := ByAt.later h2 hbr
     have hle : (sumL (ls.take k)).length + vl.length ≤ 4000000 := by rw [e1, List.length_append] at hle1; exact hle1
     have HE := Lib.hid e1
     clear h1 h2 hx e1 hle1
     go_wp2_with (at_builtin; (refine wpList_append_rd rfl (.tmp 31) (.tmp 32) 100 rfl w.heap.size 5 i0 (.int .u8 0) 1 1 Tryz.underlying100 hi hz0 hz1 hz2 rfl (by decide) _ _ _ rfl hown _ vl.length (vl.map V8) rfl hrd (v8_cells vl) (by unfold maxLen; omega) (by omega) hbr.size ?_); intro v' w' hown' hgrow)
     have hb' : Below w.heap.size w w' := hbr.grown hgrow hbr.size (fun m hm => (hown.lt m hm).1)
     clear hown hgrow hbr hrd hcr
     go_wp2
     go_roundw
     case rel => exact ⟨k + 1, by omega, by go_num, by rw [HE.out, List.length_append, List.map_append]; exact hown', hb'⟩
     case measure => (simp [intOf]; try omega)
    ·obtain rfl : k = ls.length := by omega
     rw [List.take_length] at hown
     go_wp2
     go_ret
     exact ⟨_, rfl, hown, hbr⟩
end Go.Proofs.YtipnhpfpppblhaaGreat
/- []byte(text): what lies in memory; one byte appended to it. -/
namespace Go.Proofs.YtipnhpfpppblhaaGreat
open Go.RowKit
def byL (s : ByteArray) : List Int := (B s).map (fun c => (c.toNat : Int))
theorem byL_len (s : ByteArray) : (byL s).length = s.size := by simp [byL]
theorem byL_byte (s : ByteArray) : ByteL (byL s) := by
  intro x hx
  simp only [byL, List.mem_map] at hx
  obtain ⟨c, _, rfl⟩ := hx
  have := c.toNat_lt
  omega
def cvW (w : World) (s : ByteArray) : World := Lib.bytesWorld w 5 s
def cvC (w : World) (s : ByteArray) : Nat := grownCap w s.size 0 5
theorem cv_run (w : World) (s : ByteArray) : (convert 9 100 (.string s)).run Tryz.prog w = .ok (.slice (some ⟨w.heap.size, 0, none⟩) s.size (cvC w s)) (cvW w s) :=
  Lib.run_convert_string_bytes (P := Tryz.prog) w 9 100 5 s Tryz.underlying9 Tryz.underlying100 Tryz.underlying5
theorem cv_below (w : World) (s : ByteArray) : Below w.heap.size w (cvW w s) :=
  ⟨rfl, rfl, rfl, by rw [cvW, Lib.bytesWorld_size]; omega, fun k hk => Lib.bytesWorld_at_old w _ s k hk⟩
theorem cv_size (w : World) (s : ByteArray) : (cvW w s).heap.size = w.heap.size + 1 := Lib.bytesWorld_size _ _ _
theorem cv_cap (w : World) (s : ByteArray) : s.size ≤ cvC w s := grownCap_ge w s.size 0 _
theorem byL_at (s : ByteArray) (j : Nat) (y : Value) (h : ((byL s).map V8)[j]? = some y) : j < s.size ∧ y = .int .u8 (s.data.toList.getD j 0).toNat := by
  rw [List.getElem?_map, Option.map_eq_some_iff] at h
  obtain ⟨x, hx, rfl⟩ := h
  have hj := (List.getElem?_eq_some_iff.1 hx).1
  rw [byL_len] at hj
  refine ⟨hj, ?_⟩
  simp only [byL, List.getElem?_map, Option.map_eq_some_iff] at hx
  obtain ⟨c, hc, rfl⟩ := hx
  rw [List.getD_eq_getElem?_getD, hc]; rfl
theorem cv_at (w : World) (s : ByteArray) : ByAt (cvW w s) (.slice (some ⟨w.heap.size, 0, none⟩) s.size (cvC w s)) (byL s) := by
  have h := RdAt.mk (w := cvW w s) (b := w.heap.size) (o := 0) (n := s.size) (c := cvC w s) (k := 1) (xs := (byL s).map V8) (by simp [byL_len]) (cv_cap w s) (by rw [cv_size]; omega) (fun j y hj => by
    obtain ⟨h1, rfl⟩ := byL_at s j y hj
    rw [Nat.zero_add]
    exact Lib.bytesWorld_cell w 5 s j h1)
  unfold ByAt
  rw [byL_len]
  exact h
theorem cv_free (w : World) (s : ByteArray) (j : Nat) (hj : j < cvC w s) : ((cvW w s).cell? ⟨w.heap.size, j, none⟩).isSome = true ∧ (cvW w s).frozen? ⟨w.heap.size, j, none⟩ = false := by
  have hg := Lib.bytesWorld_at_new w 5 s
  have hs : (Lib.bytesCells w 5 s).size = cvC w s := by
    have := cv_cap w s
    unfold cvC at *
    simp [Lib.bytesCells]; omega
  constructor
  · rw [World.cell?, cvW, hg]
    simp [hs, hj]
  · rw [World.frozen?, cvW, hg]
    simp [hs]; omega
theorem run_append_cv (w W : World) (s : ByteArray) (hw : Below (cvW w s).heap.size (cvW w s) W) (hs : s.size ≤ 4000000) (x : Int) (u : Value) (hu : RdAt W u 1 1 [V8 x]) (ty : TypeId) (i0 : TypeInfo)
    (hi : Tryz.prog.info? 5 = some i0) (hz0 : i0.zero = some (.int .u8 0)) (hz1 : i0.size = 1) (hz2 : i0.bytes = 1) :
    ∃ a' c' w', (Builtin.append_ #[100, 100] ty #[.slice (some ⟨w.heap.size, 0, none⟩) s.size (cvC w s), u]).run Tryz.prog W = .ok (.slice (some a') (s.size + 1) c') w' ∧
      ByAt w' (.slice (some a') (s.size + 1) c') (byL s ++ [x]) ∧ Below w.heap.size w w' ∧ a'.block < w'.heap.size ∧ w.heap.size ≤ a'.block := by
  have hlt : w.heap.size < (cvW w s).heap.size := by rw [cv_size]; omega
  have hb0 : Below w.heap.size w W := (cv_below w s).trans (hw.mono (Nat.le_of_lt hlt))
  obtain ⟨b, o, c, rfl, hc, hbl, hcell⟩ := RdAt.some hu (by decide)
  have hx0 : W.cell? ⟨b, o, none⟩ = some (V8 x) := hcell 0 _ rfl
  have hat := (cv_at w s).later hw
  have holds : ∀ j y, ((byL s).map V8)[j]? = some y → W.cell? ⟨w.heap.size, j, none⟩ = some y := fun j y hj => by
    obtain ⟨h1, rfl⟩ := byL_at s j y hj
    rw [hw.cell (p := ⟨w.heap.size, j, none⟩) hlt]
    exact Lib.bytesWorld_cell w 5 s j h1
  have hbig : w.heap.size < W.heap.size := Nat.lt_of_lt_of_le hlt hw.size
  have key : ∀ w' (g c' : Nat), s.size + 1 ≤ c' → g < w'.heap.size → (∀ j y, ((byL s ++ [x]).map V8)[j]? = some y → w'.cell? ⟨g, j, none⟩ = some y) → ByAt w' (.slice (some ⟨g, 0, none⟩) (s.size + 1) c') (byL s ++ [x]) := fun w' g c' h1 h2 h3 => by
    have h := RdAt.mk (w := w') (b := g) (o := 0) (n := s.size + 1) (c := c') (k := 1) (xs := (byL s ++ [x]).map V8) (by simp [byL_len]) h1 h2 (fun j y hj => by rw [Nat.zero_add]; exact h3 j y hj)
    unfold ByAt
    rw [show (byL s ++ [x]).length = s.size + 1 by simp [byL_len]]
    exact h
  have hsrc : Src Tryz.prog i0.size 100 (.slice (some ⟨b, o, none⟩) 1 c) 1 [V8 x] W := by
    rw [hz1]
    exact Src.ofSlice W Tryz.underlying100 _ _ _ [V8 x] rfl (fun j y hj => by
      have hj0 : j = 0 := by have := (List.getElem?_eq_some_iff.1 hj).1; simpa using this
      subst hj0
      have : V8 x = y := by simpa using hj
      subst this
      simpa [Addr.add] using hx0) (by simp [Value.oneCell'])
  rcases Nat.lt_or_ge s.size (cvC w s) with hroom | hroom
  · obtain ⟨hf1, hf2⟩ := cv_free w s s.size hroom
    have hq1 : (W.cell? ⟨w.heap.size, s.size, none⟩).isSome = true := by rw [hw.cell (p := ⟨w.heap.size, s.size, none⟩) hlt]; exact hf1
    have hq2 : W.frozen? ⟨w.heap.size, s.size, none⟩ = false := by rw [World.frozen?_of_block (a := ⟨w.heap.size, s.size, none⟩) (hw.block _ hlt)]; exact hf2
    have hr := run_append_room_src (P := Tryz.prog) (w := W) 100 100 ty 5 i0 Tryz.underlying100 hi w.heap.size 0 s.size (cvC w s) _ 1 [V8 x] hsrc hroom
      (fun j hj => by have : j = 0 := by simpa using hj
                      subst this; simpa [hz1] using hq1) (fun j hj => by have : j = 0 := by simpa using hj
                                                                         subst this; simpa [hz1] using hq2)
    refine ⟨_, _, _, hr, ?_, ?_, ?_, Nat.le_refl _⟩
    · refine key _ _ _ hroom ?_ (fun j y hj => ?_)
      · simp [World.setCells]; exact hbig
      · simp only [World.setCells, hz1, Nat.mul_one, Nat.zero_add]
        rw [List.map_append] at hj
        by_cases hjs : j < s.size
        · rw [List.getElem?_append_left (by simpa [byL_len] using hjs)] at hj
          rw [World.cell?_setCell_other _ _ _ _ (by intro e; cases e; omega)]
          exact holds j y hj
        · have hjl := (List.getElem?_eq_some_iff.1 hj).1
          have : j = s.size := by simp [byL_len] at hjl; omega
          subst this
          rw [List.getElem?_append_right (by simp [byL_len])] at hj
          have hy : V8 x = y := by simpa [byL_len] using hj
          rw [World.cell?_setCell_same' _ _ _ hq1, hy]
    · refine hb0.trans ?_
      simp only [World.setCells]
      exact below_setCell W _ _ _ (Nat.le_refl _)
    · simp [World.setCells]; exact hbig
  · have e1 : cvC w s = s.size := Nat.le_antisymm hroom (cv_cap w s)
    have hr := run_append_grow (P := Tryz.prog) W 100 ty 5 i0 (.int .u8 0) Tryz.underlying100 hi hz0 ⟨w.heap.size, 0, none⟩ s.size (cvC w s) ((byL s).map V8) (by simp [byL_len, hz1])
      (fun j y hj => by rw [Addr.add_mid, Nat.zero_add]; exact holds j y hj) ⟨b, o, none⟩ 1 c [V8 x] (by simp [hz1]) (fun j y hj => by
        have hj0 : j = 0 := by have := (List.getElem?_eq_some_iff.1 hj).1; simpa using this
        subst hj0
        have : V8 x = y := by simpa using hj
        subst this
        simpa [Addr.add] using hx0) (by omega) (by omega) (growslice_fits (by omega) (by rw [hz2]; omega))
    have hge := grownCap_ge W (s.size + 1) (cvC w s) 5
    refine ⟨_, _, _, hr, ?_, ?_, ?_, Nat.le_of_lt hbig⟩
    · refine key _ _ _ hge (by simp) (fun j y hj => ?_)
      have e2 : (W.drew.alloc (.cells (((byL s).map V8).toArray ++ [V8 x].toArray ++ Builtin.zeroCells (Value.int .u8 0).cells (grownCap W (s.size + 1) (cvC w s) 5 - (s.size + 1))) 5)).cell? ⟨W.heap.size, j, none⟩ = _ := World.cell?_alloc_new W.drew _ _ j
      rw [e2]
      rw [List.map_append] at hj
      have hjl := (List.getElem?_eq_some_iff.1 hj).1
      rw [Array.getElem?_append_left (by simpa using hjl)]
      simpa using hj
    · exact hb0.trans (((Below.refl _ _).drew).alloc (Nat.le_of_lt hbig) _)
    · simp
end Go.Proofs.YtipnhpfpppblhaaGreat
/- digest.Of: a contract. -/
namespace Go.Proofs.YtipnhpfpppblhaaGreat
open Go.RowKit
def ofL (bs : List Int) : List Int := sumOut (blocksL startL bs (bs.length / 64)) (padL (bs.drop (64 * (bs.length / 64))) (padN (bs.drop (64 * (bs.length / 64))).length) bs.length)
theorem ofL_len (bs : List Int) : (ofL bs).length = 32 := outL_len _ _
theorem outL_byte (X : List Int) (k : Nat) : ByteL (outL X k) := by
 intro x hx
 simp only [outL, List.mem_map] at hx
 obtain ⟨j, _, rfl⟩ := hx
 unfold outAt
 omega
set_option maxHeartbeats 1600000 in
set_option maxRecDepth 100000 in
theorem of_any (bs : List Int) (v : Value) (w : World) (hb : ByAt w v bs) (hB : ByteL bs) (hv : ∀ p, v.ownBlock = some p → p < w.heap.size) (hl : bs.length ≤ 1000000000000) :
  Calls Tryz.prog 89 #[v] w fun e w' => e = .returned (.agg ((ofL bs).map V8).toArray) ∧ Below w.heap.size w w' := by
 have hb0 := alloc_below w (.cells (Array.replicate 32 (.int .u8 0)) 133)
 have hr0 := hb.later hb0
 have hR0 : (w.alloc (.cells (Array.replicate 32 (.int .u8 0)) 133)).heap[w.heap.size]? = some (.cells (Array.replicate 32 (.int .u8 0)) 133 (0, 0)) := heap_alloc_new _ _
 have hsz0 := Lib.hid (World.size_alloc w (.cells (Array.replicate 32 (.int .u8 0)) 133))
 have HR0 := Lib.hid hR0
 have HB := Lib.hid hB
 have HL := Lib.hid hl
 clear hb hR0 hB hl
 go_enter Tryz.func89, Tryz.ntmps89
 go_upto_region 1 with fail
 change Code.wp _ _ _ _ (w.alloc (.cells (Array.replicate 32 (.int .u8 0)) 133))
 generalize w.alloc (.cells (Array.replicate 32 (.int .u8 0)) 133) = w0 at *
 go_wp2_with fail
 refine (new_any _).mono ?_
 rintro e w1 ⟨p, rfl, hp, hS1, hb1⟩
 have hv1 : v.ownBlock ≠ some p := fun e => by have := hv p e; have := hsz0.out; omega
 have hadd := add_any startL [] bs 0 (.slice none 0 0) v p w0.heap.size w1 hS1 (World.ownsRow_nil _ _ _ _) (hr0.later hb1) HB.out hv1 hp hb1.size (by have := HL.out; simp; omega) (by have := HL.out; omega)
 go_wp2_with fail
 refine hadd.mono ?_
 rintro e w2 ⟨rv, k, rfl, hk, hS2, hr2, hb2⟩
 rw [List.nil_append] at hk hS2 hr2
 rw [Int.zero_add] at hS2
 have hlen : (bs.drop (64 * k)).length < 64 := by rw [List.length_drop]; omega
 have hnow := now_any (blocksL startL bs k) (bs.drop (64 * k)) bs.length rv p w2 hS2 hr2 (fun x hx => HB.out x (List.mem_of_mem_drop hx)) hlen
 clear hadd
 go_wp2_with fail
 refine hnow.mono ?_
 rintro e w3 ⟨rfl, hb3⟩
 subst hk
 have hE : (sumOut (blocksL startL bs (bs.length / 64)) (padL (bs.drop (64 * (bs.length / 64))) (padN (bs.drop (64 * (bs.length / 64))).length) bs.length)) = ofL bs := rfl
 rw [hE]
 have hB3 : Below w0.heap.size w0 w3 := (hb1.trans hb2).trans (hb3.mono (Nat.le_trans hb1.size hb2.size))
 have hR3 := (hB3.block w.heap.size (by rw [hsz0.out]; omega)).trans HR0.out
 have hOl : ((ofL bs).map V8).toArray.size = 32 := by simp [ofL_len]
 have hI9 : (Tryz.prog.info? 133).map (·.size) = some ((ofL bs).map V8).toArray.size := by rw [hOl]; kernel_rfl
 have hcs := all_oneCell_toArray (v8_cells (ofL bs))
 obtain ⟨C, hC⟩ : ∃ C, ((ofL bs).map V8).toArray = C := ⟨_, rfl⟩
 rw [hC] at hOl hI9 hcs ⊢
 have HCC := Lib.hid hC
 clear hC hnow hE hS1 hS2 hr2
 rename_i hKK
 refine hKK _ _ ?_
 refine wpList_store_row rfl 133 (.tmp 2) (.tmp 9) rfl w.heap.size C rfl rfl 133 _ hR3 hI9 (by rw [hOl]; rfl) hcs ?_
 have hg2 := setRow_heap w3 w.heap.size _ C _ _ hR3
 have hb2 : Below w.heap.size w (w3.setRow w.heap.size C) := below_setRow (hb0.trans (hB3.mono hb0.size)) (Nat.le_refl _) _
 generalize w3.setRow w.heap.size C = w4 at *
 show Exit.then _ _ Exit.normal _ _
 simp only [Exit.then]
 refine (by assumption : ∀ (a : Act) (w : World), Code.wp _ Code.ret _ a w → _) _ _ ?_
 go_wp2
 refine bodyPost_ret (results_cell_row rfl _ _ w.heap.size 133 C (0, 0) (.array 32 5) rfl hg2 Tryz.underlying133 rfl hI9) rfl ?_
 exact ⟨by rw [HCC.out], hb2⟩
def shortS (n x : Int) : Int := bits BinOp.or .u64 (IntKind.u64.wrap (n * 256)) x
def shortK (l : List Int) : Nat → Int
 | 0 => 0
 | k + 1 => shortS (shortK l k) (l.getD k 0)
def shortL (bs : List Int) : Int := shortK (ofL bs) 8
set_option maxHeartbeats 1600000 in
set_option maxRecDepth 100000 in
theorem short_any (bs : List Int) (v : Value) (w : World) (hb : ByAt w v bs) (hB : ByteL bs) (hv : ∀ p, v.ownBlock = some p → p < w.heap.size) (hl : bs.length ≤ 1000000000000) :
  Calls Tryz.prog 61 #[v] w fun e w' => e = .returned (.int .u64 (shortL bs)) ∧ Below w.heap.size w w' := by
 have hof := of_any bs v w hb hB hv hl
 clear hb hB hv hl
 go_enter Tryz.func61, Tryz.ntmps61
 go_upto_region 2 with fail
 go_wp2_with fail
 refine hof.mono ?_
 rintro e w1 ⟨rfl, hb1⟩
 have hbyte : Hid (ByteL (ofL bs)) := Lib.hid (outL_byte _ _)
 obtain ⟨F, hF⟩ : ∃ F, ofL bs = F := ⟨_, rfl⟩
 have hFl : F.length = 32 := by rw [← hF]; exact ofL_len bs
 have HSH : Hid (shortL bs = shortK F 8) := Lib.hid (by unfold shortL; rw [hF])
 rw [hF] at hbyte ⊢
 have hOl : (F.map V8).toArray.size = 32 := by simp [hFl]
 have hI9 : (Tryz.prog.info? 133).map (·.size) = some (F.map V8).toArray.size := by rw [hOl]; kernel_rfl
 have hcs := all_oneCell_toArray (v8_cells F)
 have hcell : ∀ k, k < 32 → (F.map V8).toArray[k]? = some (V8 (F.getD k 0)) := fun k hk => by
  rw [List.getElem?_toArray, List.getElem?_map, List.getD_eq_getElem?_getD, List.getElem?_eq_getElem (by omega)]; rfl
 have HC := Lib.hid hcell
 generalize (F.map V8).toArray = C at *
 clear hof hF hcell
 rename_i hKK
 refine hKK _ _ ?_
 refine Go.Great.wpList_allocTo rfl (some 4) rfl (.pointer (some ⟨w1.heap.size, 0, none⟩)) (.cells (Array.replicate 32 (.int .u8 0)) 133) (by go_simp; rfl) ?_
 refine wpList_store_row rfl 133 (.tmp 4) (.tmp 8) rfl w1.heap.size C rfl rfl 133 _ (heap_alloc_new _ _) hI9 (by rw [hOl]; rfl) hcs ?_
 have hg2 := setRow_heap (w1.alloc (.cells (Array.replicate 32 (.int .u8 0)) 133)) w1.heap.size _ C _ _ (heap_alloc_new _ _)
 have hb2 : Below w.heap.size w ((w1.alloc (.cells (Array.replicate 32 (.int .u8 0)) 133)).setRow w1.heap.size C) := below_setRow (hb1.alloc hb1.size _) hb1.size _
 generalize (w1.alloc (.cells (Array.replicate 32 (.int .u8 0)) 133)).setRow w1.heap.size C = w4 at *
 show Exit.then _ _ Exit.normal _ _
 simp only [Exit.then]
 have hc4 : Hid (∀ k, k < 32 → w4.cell? ⟨w1.heap.size, k, none⟩ = some (V8 (F.getD k 0))) := Lib.hid (fun k hk => by rw [cell_row hg2]; exact HC.out k hk)
 clear hg2 hI9 hcs hOl HC
 go_wp2
 go_loopw [11, 3] (fun i n wr => ∃ k : Nat, k ≤ 8 ∧ i = .int .i64 k ∧ n = .int .u64 (shortK F k) ∧ wr = w4) (fun i _ _ => 8 - (intOf i).toNat)
 case atStart => exact ⟨0, Nat.zero_le _, rfl, rfl, rfl⟩
 case round =>
  obtain ⟨k, hk, rfl, rfl, rfl⟩ := hrel
  by_cases hkl : k < 8
  ·have hI : (k : Int) < 8 := by omega
   have g := hc4.out k (by omega)
   obtain ⟨x, hx⟩ : ∃ x, F.getD k 0 = x := ⟨_, rfl⟩
   have hxb : 0 ≤ x ∧ x < 256 := by
    rw [← hx, List.getD_eq_getElem?_getD, List.getElem?_eq_getElem (by omega)]
    exact hbyte.out _ (List.getElem_mem _)
   have q1 : IntKind.u64.wrap x = x := by simp [IntKind.wrap, IntKind.bits, IntKind.signed]; omega
   rw [hx] at g
   have HX := Lib.hid hx
   clear hx
   go_wp2
   go_roundw
   case rel => exact ⟨k + 1, by omega, by go_num, by rw [shortK, HX.out]; rfl, trivial⟩
   case measure => (simp [intOf]; try omega)
  ·obtain rfl : k = 8 := by omega
   rw [show ((8 : Nat) : Int) = 8 from rfl]
   go_wp2
   go_ret
   exact ⟨by rw [HSH.out]; rfl, hb2⟩
end Go.Proofs.YtipnhpfpppblhaaGreat
/- alert.Id: a contract. -/
namespace Go.Proofs.YtipnhpfpppblhaaGreat
open Go.RowKit
def fldB (f : Fld) : List Int := byL f.1 ++ [61] ++ byL f.2 ++ [0]
def idB (src : ByteArray) (fl : List Fld) : List Int := byL src ++ [0] ++ fl.flatMap fldB
theorem idB_take {fl : List Fld} {k : Nat} (src : ByteArray) (h : k < fl.length) : idB src (fl.take (k + 1)) = idB src (fl.take k) ++ fldB fl[k] := by
 unfold idB
 rw [List.take_succ_eq_append_getElem h, List.flatMap_append]; simp
theorem idB_le (src : ByteArray) (fl : List Fld) (k : Nat) : (idB src (fl.take k)).length ≤ (idB src fl).length := by
 have : idB src fl = idB src (fl.take k) ++ (fl.drop k).flatMap fldB := by
  unfold idB
  rw [List.append_assoc _ _ ((fl.drop k).flatMap fldB), ← List.flatMap_append, List.take_append_drop]
 rw [this, List.length_append]; omega
theorem idB_byte (src : ByteArray) (fl : List Fld) : ByteL (idB src fl) := by
 intro x hx
 simp only [idB, List.mem_append, List.mem_flatMap, fldB] at hx
 rcases hx with (h | h) | ⟨f, _, ((h | h) | h) | h⟩
 ·exact byL_byte src x h
 ·obtain rfl := List.mem_singleton.1 h; omega
 ·exact byL_byte f.1 x h
 ·obtain rfl := List.mem_singleton.1 h; omega
 ·exact byL_byte f.2 x h
 ·obtain rfl := List.mem_singleton.1 h; omega
theorem wpList_append_cv {w W : World} {ops : Array Oper} {rest : List Oper} {o : Oper} {a : Act} {Q : Exit → Act → World → Prop} (hgd : o.guard = none) (s x : Operand)
  (ho : o.op = .call { callee := .builtin .append, args := #[s, x], argTypes := #[100, 100] }) (i0 : TypeInfo)
  (hi : Tryz.prog.info? 5 = some i0) (hz0 : i0.zero = some (.int .u8 0)) (hz1 : i0.size = 1) (hz2 : i0.bytes = 1)
  (str : ByteArray) (hs : a.eval s = .slice (some ⟨w.heap.size, 0, none⟩) str.size (cvC w str)) (hw : Below (cvW w str).heap.size (cvW w str) W) (hl : str.size ≤ 4000000)
  (u : Value) (c : Int) (hx : a.eval x = u) (hu : RdAt W u 1 1 [V8 c])
  (h : ∀ a' c' w', ByAt w' (.slice (some a') (str.size + 1) c') (byL str ++ [c]) → Below w.heap.size w w' → a'.block < w'.heap.size → wpList Tryz.prog ops Q rest (a.put o.dst (.slice (some a') (str.size + 1) c')) w') : wpList Tryz.prog ops Q (o :: rest) a W := by
 refine wpList_plain hgd fun K hK => ?_
 obtain ⟨a', c', w', hr, h2, h3, h4, _⟩ := run_append_cv w W str hw hl c u hu o.type i0 hi hz0 hz1 hz2
 unfold Oper.wp execOp
 simp only [ho, resolve, invoke, builtin, Sem.run_bind, Sem.run_pure, Result.andThen_ok, List.map_toArray, List.map_cons, List.map_nil, hs, hx, hr]
 exact hK _ _ (h a' c' w' h2 h3 h4)
theorem own_ltA {a : Addr} {n c m : Nat} (h : a.block < m) : ∀ p, (Value.slice (some a) n c).ownBlock = some p → p < m := by
 intro p hp
 have : a.block = p := by simpa [Value.ownBlock] using hp
 rw [← this]; exact h
theorem by_one (w : World) (x : Int) : ByAt (w.alloc (.cells #[V8 x] 5)) (.slice (some ⟨w.heap.size, 0, none⟩) 1 1) [x] := rd_one8 w (V8 x) 5
theorem pieces_at (w : World) (v : Value) (bs : List Int) (hv : ByAt w v bs) (n u : ByteArray) :
  SlsAt ((((((cvW w n).alloc (.cells #[V8 61] 5))) |> fun w2 => ((cvW w2 u).alloc (.cells #[V8 0] 5)) |> fun w4 => w4.alloc (.cells #[v, .slice (some ⟨w.heap.size, 0, none⟩) n.size (cvC w n), .slice (some ⟨(cvW w n).heap.size, 0, none⟩) 1 1, .slice (some ⟨w2.heap.size, 0, none⟩) u.size (cvC w2 u), .slice (some ⟨(cvW w2 u).heap.size, 0, none⟩) 1 1] 100))))
   ⟨((cvW ((cvW w n).alloc (.cells #[V8 61] 5)) u).alloc (.cells #[V8 0] 5)).heap.size, 0, none⟩
   [(v, bs), (.slice (some ⟨w.heap.size, 0, none⟩) n.size (cvC w n), byL n), (.slice (some ⟨(cvW w n).heap.size, 0, none⟩) 1 1, [61]), (.slice (some ⟨((cvW w n).alloc (.cells #[V8 61] 5)).heap.size, 0, none⟩) u.size (cvC ((cvW w n).alloc (.cells #[V8 61] 5)) u), byL u), (.slice (some ⟨(cvW ((cvW w n).alloc (.cells #[V8 61] 5)) u).heap.size, 0, none⟩) 1 1, [0])] := by
 dsimp only
 have b1 := cv_below w n
 have b2 := alloc_below (cvW w n) (.cells #[V8 61] 5)
 have r1 := cv_at w n
 have r2 := by_one (cvW w n) 61
 have s1 := cv_size w n
 have s2 : ((cvW w n).alloc (.cells #[V8 61] 5)).heap.size = (cvW w n).heap.size + 1 := World.size_alloc _ _
 generalize (cvW w n).alloc (.cells #[V8 61] 5) = w2 at *
 have b3 := cv_below w2 u
 have b4 := alloc_below (cvW w2 u) (.cells #[V8 0] 5)
 have r3 := cv_at w2 u
 have r4 := by_one (cvW w2 u) 0
 have s3 := cv_size w2 u
 have s4 : ((cvW w2 u).alloc (.cells #[V8 0] 5)).heap.size = (cvW w2 u).heap.size + 1 := World.size_alloc _ _
 generalize (cvW w2 u).alloc (.cells #[V8 0] 5) = w4 at *
 generalize hQ : (#[v, .slice (some ⟨w.heap.size, 0, none⟩) n.size (cvC w n), .slice (some ⟨(cvW w n).heap.size, 0, none⟩) 1 1, .slice (some ⟨w2.heap.size, 0, none⟩) u.size (cvC w2 u), .slice (some ⟨(cvW w2 u).heap.size, 0, none⟩) 1 1] : Array Value) = Q
 have b5 := alloc_below w4 (.cells Q 100)
 have hsz : w4.heap.size < (w4.alloc (.cells Q 100)).heap.size := by rw [World.size_alloc]; omega
 have hcell : ∀ j, (w4.alloc (.cells Q 100)).cell? ⟨w4.heap.size, 0 + j, none⟩ = Q[j]? := fun j => by rw [Nat.zero_add]; exact World.cell?_alloc_at _ _ _ _ rfl
 have b24 := b3.trans (b4.mono (by omega))
 have b25 := b24.trans (b5.mono (by omega))
 have b12 := b1.trans (b2.mono (by omega))
 have e0 : ByAt (w4.alloc (.cells Q 100)) v bs := hv.later (b12.trans (b25.mono (by omega)))
 have e1 := (r1.later b2).later b25
 have e2 := r2.later b25
 have e3 := (r3.later b4).later b5
 have e4 := r4.later b5
 refine ⟨w4.heap.size, 0, rfl, hsz, fun j hj => ?_⟩
 match j, hj with
 | 0, _ => exact ⟨by rw [hcell, ← hQ]; rfl, e0⟩
 | 1, _ => exact ⟨by rw [hcell, ← hQ]; rfl, e1⟩
 | 2, _ => exact ⟨by rw [hcell, ← hQ]; rfl, e2⟩
 | 3, _ => exact ⟨by rw [hcell, ← hQ]; rfl, e3⟩
 | 4, _ => exact ⟨by rw [hcell, ← hQ]; rfl, e4⟩
set_option maxHeartbeats 1600000 in
set_option maxRecDepth 100000 in
theorem id_any (src : ByteArray) (fl : List Fld) (lv : Int) (c : Nat) (fr til : Int) (v : Value) (w : World) (hv : FldsAt w v fl) (hl : (idB src fl).length ≤ 4000000) :
  Calls Tryz.prog 28 #[.agg #[.string src, v, .int .i64 lv, .int .u32 c, .int .i64 fr, .int .i64 til]] w fun e w' => e = .returned (.int .u64 (shortL (idB src fl))) ∧ Below w.heap.size w w' := by
 obtain ⟨fa, fc, rfl, hfc, hfr⟩ := RdAt.shape hv
 obtain ⟨i0, hi, hz0, hz1, hz2⟩ := info_parts info_u8
 have HF := Lib.hid hfr
 clear hfr hv
 have hsl : src.size ≤ 4000000 := by have := idB_le src fl 0; simp [idB, byL_len] at this hl; omega
 have hfl : fl.length ≤ 4000000 := by
  have : fl.length ≤ (fl.flatMap fldB).length := by
   clear hl HF hfc
   induction fl with
   | nil => simp
   | cons f l ih => simp only [List.flatMap_cons, List.length_append, fldB, List.length_cons, List.length_nil]; omega
  unfold idB at hl
  rw [List.length_append] at hl
  omega
 have kc := fun W => cv_run W src
 have HL := Lib.hid hl
 clear hl
 go_enter Tryz.func28, Tryz.ntmps28
 go_upto_region 1 with fail
 have hbx := alloc_below w (.cells #[.string src, .slice fa fl.length fc, .int .i64 lv, .int .u32 c, .int .i64 fr, .int .i64 til] 54)
 have hbox := box6 (Below.refl (w.alloc (.cells #[.string src, .slice fa fl.length fc, .int .i64 lv, .int .u32 c, .int .i64 fr, .int .i64 til] 54)).heap.size _)
 obtain ⟨⟨x0, x1, x2, x3, x4, x5⟩, hlt0, _⟩ := hbox
 generalize w.alloc (.cells #[.string src, .slice fa fl.length fc, .int .i64 lv, .int .u32 c, .int .i64 fr, .int .i64 til] 54) = w0 at *
 have hlt := Lib.hid hlt0
 clear hlt0
 have hcb := (cv_below w0 src)
 have hal := alloc_below (cvW w0 src) (.cells #[V8 0] 5)
 have hrd := rd_one8 (cvW w0 src) (V8 0) 5
 go_wp2_with (at_builtin; (refine wpList_append_cv (w := w0) rfl (.tmp 8) (.tmp 9) rfl i0 hi hz0 hz1 hz2 src rfl hal hsl _ 0 rfl hrd ?_); intro a1 c1 w1 hby1 hb1 hlt1; have hX1 := keep_cell x1 hb1 hlt.out)
 have hB1 := hbx.trans (hb1.mono (Nat.le_of_lt hlt.out))
 have hby1' := Lib.hid hby1
 have hlt1' := Lib.hid hlt1
 clear x0 x1 x2 x3 x4 x5 hcb hal hrd hby1 hlt1 hb1 hbx
 have HL2 := HL.out
 have hN0 : Hid (src.size + 1 = (idB src (fl.take 0)).length) := Lib.hid (by simp [idB, byL_len])
 have hby2 : Hid (ByAt w1 (.slice (some a1) (src.size + 1) c1) (idB src (fl.take 0))) := Lib.hid (by have := hby1'.out; simpa [idB] using this)
 have hown2 := Lib.hid (own_ltA (n := src.size + 1) (c := c1) hlt1'.out)
 clear hby1' HL2 hlt1'
 generalize hnn : src.size + 1 = nn at *
 clear hnn
 have hB1' := Lib.hid hB1
 clear hB1 hX1
 go_loopw [3, 14] (fun s i wr => ∃ (k n c' : Nat) (a' : Option Addr), k ≤ fl.length ∧ i = .int .i64 k ∧ s = .slice a' n c' ∧ Hid (n = (idB src (fl.take k)).length) ∧ Hid (ByAt wr (.slice a' n c') (idB src (fl.take k))) ∧ Hid (∀ p, (Value.slice a' n c').ownBlock = some p → p < wr.heap.size) ∧ Hid (Below w.heap.size w wr)) (fun _ i _ => fl.length - (intOf i).toNat)
 case atStart => exact ⟨0, nn, c1, some a1, Nat.zero_le _, rfl, rfl, hN0, hby2, hown2, hB1'⟩
 case round =>
  clear hN0 hby2 hown2 hB1'
  obtain ⟨k, n, c', a', hk, rfl, rfl, HN, HB, HO, Hb⟩ := hrel
  by_cases hkl : k < fl.length
  ·obtain ⟨b, o, rfl, hb, hcell⟩ := HF.out (by omega)
   obtain ⟨x, hxe⟩ : ∃ x, fl[k].1 = x := ⟨_, rfl⟩
   obtain ⟨y, hye⟩ : ∃ y, fl[k].2 = y := ⟨_, rfl⟩
   obtain ⟨hx0, hy0⟩ := fldCells_at fl k hkl
   rw [hxe] at hx0
   rw [hye] at hy0
   have hcx : wr.cell? ⟨b, o + k * 2, none⟩ = some (.string x) := keep_cell (hcell _ _ hx0) Hb.out hb
   have hcy : wr.cell? ⟨b, o + k * 2 + 1, none⟩ = some (.string y) := keep_cell (hcell _ _ hy0) Hb.out hb
   have hE : Hid (fldB fl[k] = byL x ++ [61] ++ byL y ++ [0]) := Lib.hid (by unfold fldB; rw [hxe, hye])
   have kcx := fun W => cv_run W x
   have kcy := fun W => cv_run W y
   clear hcell hxe hye hx0 hy0
   go_upto_region 5 with fail
   have hbx := box2 (Below.refl (wr.alloc (.cells #[.string x, .string y] 90)).heap.size _)
   obtain ⟨y0, y1, hlw, hbw⟩ := hbx
   have HBa : ByAt (wr.alloc (.cells #[.string x, .string y] 90)) (.slice a' n c') (idB src (fl.take k)) := HB.out.later hbw
   change Code.wp _ _ _ _ (wr.alloc (.cells #[.string x, .string y] 90))
   generalize wr.alloc (.cells #[.string x, .string y] 90) = wa at *
   have b1 := (cv_below wa x).trans ((alloc_below (cvW wa x) (.cells #[V8 61] 5)).mono (by rw [cv_size]; omega))
   have y1' := keep_cell y1 b1 hlw
   have hps := pieces_at wa _ _ HBa x y
   dsimp only at hps
   have hE2 : sumL [((Value.slice a' n c'), idB src (fl.take k)), (.slice (some ⟨wa.heap.size, 0, none⟩) x.size (cvC wa x), byL x), (.slice (some ⟨(cvW wa x).heap.size, 0, none⟩) 1 1, [61]), (.slice (some ⟨((cvW wa x).alloc (.cells #[V8 61] 5)).heap.size, 0, none⟩) y.size (cvC ((cvW wa x).alloc (.cells #[V8 61] 5)) y), byL y), (.slice (some ⟨(cvW ((cvW wa x).alloc (.cells #[V8 61] 5)) y).heap.size, 0, none⟩) 1 1, [0])] = idB src (fl.take (k + 1)) := by
    rw [idB_take src hkl, hE.out]; simp only [sumL, List.flatMap_cons, List.flatMap_nil, List.append_nil, List.append_assoc]
   have hlen := idB_le src fl (k + 1)
   have hpos : 0 < (idB src (fl.take (k + 1))).length := by unfold idB; simp only [List.length_append, List.length_cons]; omega
   have hcc := concat_any _ _ 5 _ hps (by rw [hE2]; exact hpos) (by rw [hE2]; have := HL.out; omega) (by simp)
   rw [hE2] at hcc
   have kcx1 := cv_run wa x
   have kcy1 := cv_run ((cvW wa x).alloc (.cells #[V8 61] 5)) y
   have hsz := cv_below wa x
   clear hps hE2 HBa hpos b1 y1 hlen hlw HN HB HO HF hE hb kcx kcy
   generalize hwb : cvW wa x = wb at *
   generalize hwd : cvW (wb.alloc (.cells #[V8 61] 5)) y = wd at *
   generalize cvC wa x = cx at *
   generalize cvC (wb.alloc (.cells #[V8 61] 5)) y = cy at *
   simp only [World.size_alloc] at hcc kcy1
   have HCC := Lib.hid hcc
   have HY := Lib.hid hbw
   have HWB := Lib.hid hwb
   have HWD := Lib.hid hwd
   clear hcc hbw hwb hwd hsz
   go_wp2_with fail
   refine HCC.out.mono ?_
   rintro e w2 ⟨v2, rfl, hown, hb2⟩
   have q1 : Below wa.heap.size wa wb := by rw [← HWB.out]; exact cv_below wa x
   have q2 := alloc_below wb (.cells #[V8 61] 5)
   have q3 : Below (wb.alloc (.cells #[V8 61] 5)).heap.size (wb.alloc (.cells #[V8 61] 5)) wd := by rw [← HWD.out]; exact cv_below _ y
   have q4 := alloc_below wd (.cells #[V8 0] 5)
   have q5 := ((q1.trans (q2.mono q1.size)).trans (q3.mono (by have := q1.size; have := q2.size; omega))).trans (q4.mono (by have := q1.size; have := q2.size; have := q3.size; omega))
   have q6 := q5.trans ((alloc_below _ (.cells #[.slice a' n c', .slice (some ⟨wa.heap.size, 0, none⟩) x.size cx, .slice (some ⟨wb.heap.size, 0, none⟩) 1 1, .slice (some ⟨wb.heap.size + 1, 0, none⟩) y.size cy, .slice (some ⟨wd.heap.size, 0, none⟩) 1 1] 100)).mono q5.size)
   have q6s := q6.size
   simp only [World.size_alloc] at q6s
   have q7 := HY.out.trans ((q6.trans (hb2.mono q6s)).mono HY.out.size)
   have hB2 := Hb.out.trans (q7.mono Hb.out.size)
   obtain ⟨a2, c2, rfl, _, _⟩ := RdAt.shape (RdAt.own hown)
   have hO2 : ∀ p, (Value.slice a2 (idB src (fl.take (k + 1))).length c2).ownBlock = some p → p < w2.heap.size := fun p hp => (hown.lt p hp).2
   have hBy : ByAt w2 (.slice a2 (idB src (fl.take (k + 1))).length c2) (idB src (fl.take (k + 1))) := RdAt.own hown
   have HO2 := Lib.hid hO2
   have HBy := Lib.hid hBy
   have HB2 := Lib.hid hB2
   obtain ⟨nx, hnx⟩ : ∃ z, (idB src (fl.take (k + 1))).length = z := ⟨_, rfl⟩
   rw [hnx] at HO2 HBy
   have HNX := Lib.hid hnx
   clear q1 q2 q3 q4 q5 q6 q6s q7 hown hb2 hO2 hBy hB2 HCC HY HWB HWD kcx1 kcy1 y0 y1' hcx hcy Hb
   try rw [hnx]
   clear hnx
   go_wp2
   go_roundw
   case rel => exact ⟨k + 1, nx, c2, a2, by omega, by go_num, rfl, Lib.hid HNX.out.symm, HBy, HO2, HB2⟩
   case measure => (simp [intOf]; try omega)
  ·obtain rfl : k = fl.length := by omega
   have hbs : ByAt wr (.slice a' n c') (idB src fl) := by have := HB.out; rwa [List.take_length] at this
   have hn : n = (idB src fl).length := by have := HN.out; rwa [List.take_length] at this
   subst hn
   have hsh := short_any (idB src fl) (.slice a' (idB src fl).length c') wr hbs (idB_byte src fl) HO.out (by have := HL.out; omega)
   have HSH := Lib.hid hsh
   clear hsh hbs HB HN HO
   go_wp2_with fail
   refine HSH.out.mono ?_
   rintro e w2 ⟨rfl, hb2⟩
   have hB2 := Hb.out.trans (hb2.mono Hb.out.size)
   go_wp2
   go_ret
   exact ⟨rfl, hB2⟩
end Go.Proofs.YtipnhpfpppblhaaGreat
/- Alerts that may be: what Apart puts. Plain. -/
namespace Go.Proofs.YtipnhpfpppblhaaGreat
open Go.RowKit Go.Maps
theorem nameL_len {s : ByteArray} (h : nameL (B s) = true) : s.size ≤ 12 := by
 unfold nameL at h
 simp only [Bool.and_eq_true, decide_eq_true_eq] at h
 have := h.1.1.2
 rwa [len_B] at this
theorem rightF_at {l : List Fld} (h : rightF l = true) : l.length ≤ 8 ∧ ∀ j (hj : j < l.length), nameL (B l[j].1) = true ∧ l[j].2.size ≤ 200 := by
 unfold rightF at h
 simp only [Bool.and_eq_true, decide_eq_true_eq, List.all_eq_true, List.mem_range] at h
 refine ⟨h.1, fun j hj => ?_⟩
 have := h.2 j hj
 unfold fldOk at this
 simp only [Bool.and_eq_true, decide_eq_true_eq] at this
 have e : l.getD j default = l[j] := by rw [List.getD_eq_getElem?_getD, List.getElem?_eq_getElem hj]; rfl
 rw [e] at this
 exact ⟨this.1.1, this.1.2⟩
theorem flat_le (l : List Fld) (h : ∀ f ∈ l, f.1.size ≤ 12 ∧ f.2.size ≤ 200) : (l.flatMap fldB).length ≤ l.length * 214 := by
 induction l with
 | nil => simp
 | cons f l ih =>
  have h1 := ih (fun g hg => h g (List.mem_cons_of_mem _ hg))
  obtain ⟨h2, h3⟩ := h f List.mem_cons_self
  rw [List.flatMap_cons, List.length_append, List.length_cons]
  have : (fldB f).length = f.1.size + 1 + f.2.size + 1 := by simp [fldB, byL_len]; omega
  omega
theorem whoA_iff {src : ByteArray} {fl : List Fld} {lv : Int} : whoA src fl lv = true ↔ nameL (B src) = true ∧ 0 < fl.length ∧ rightF fl = true ∧ rightL lv = true := by
 unfold whoA
 simp only [Bool.and_eq_true, decide_eq_true_eq, and_assoc]
theorem idB_bound {src : ByteArray} {fl : List Fld} {lv : Int} (h : whoA src fl lv = true) : (idB src fl).length ≤ 4000000 := by
 obtain ⟨h1, _, h3, _⟩ := whoA_iff.1 h
 have h4 := nameL_len h1
 obtain ⟨h5, h6⟩ := rightF_at h3
 have h7 := flat_le fl (fun f hf => by
  obtain ⟨j, hj, rfl⟩ := List.getElem_of_mem hf
  obtain ⟨a, b⟩ := h6 j hj
  exact ⟨nameL_len a, b⟩)
 unfold idB
 simp only [List.length_append, byL_len, List.length_cons, List.length_nil]
 omega
theorem rightA_who {x : Al} (h : rightA x = true) : whoA x.src x.fl x.lv = true := by
 unfold rightA at h
 simp only [Bool.and_eq_true] at h
 exact h.1.1
def idA (x : Al) : Int := shortL (idB x.src x.fl)
end Go.Proofs.YtipnhpfpppblhaaGreat
/- inhibit.by: a contract. -/
namespace Go.Proofs.YtipnhpfpppblhaaGreat
open Go.RowKit Go.Shelf
attribute [local go_sem] Oper.semAt_some
theorem rightA_len {x : Al} (h : rightA x = true) : x.fl.length ≤ 8 := by
 obtain ⟨_, _, h3, _⟩ := whoA_iff.1 (rightA_who h)
 exact (rightF_at h3).1
theorem ih_len {x : PIh} (h : badIh x = false) : x.bys.length ≤ 8 ∧ x.frm.length ≤ 12 ∧ x.whn.length ≤ 12 := by
 unfold badIh byP whenP at h
 simp only [Bool.or_eq_false_iff, Bool.not_eq_false', Bool.and_eq_true, decide_eq_true_eq] at h
 exact ⟨h.1.1.1.2, h.1.2.2, h.2.2⟩
noncomputable def goodBy (x : PIh) (id : Int) (c : List Fld) (p : Al) : Bool := allM p.fl x.frm && alikeM x.bys p.fl c && (idA p != id)
noncomputable def byM (x : PIh) (l : List (Al × Value)) (id : Int) (c : List Fld) (now : Int) : Bool := allM c x.whn && (l.filter (goesA now)).any fun p => goodBy x id c p.1
set_option maxHeartbeats 3200000 in
set_option maxRecDepth 100000 in
theorem by_any (x : PIh) (l : List (Al × Value)) (id : Int) (c : Al) (lv : Value) (fa : Option Addr) (fc : Nat) (now : Int) (w : World) (hx : IhIn w x) (hxf : IhFit x) (hok : badIh x = false) (hl : AlsAt w lv l) (hlen : l.length ≤ maxLen) (hc : FldsAt w (.slice fa c.fl.length fc) c.fl) (hcf : FldsFit c.fl) (hcl : c.fl.length ≤ 1000000000000) :
  Calls Tryz.prog 30 #[.agg #[x.bv, .int .i64 x.lv, .int .u32 x.c, x.fv, x.wv], lv, .int .u64 id, AlV c (.slice fa c.fl.length fc), .int .i64 now] w fun e w' => e = .returned (.bool (byM x l id c.fl now)) ∧ Below w.heap.size w w' := by
 obtain ⟨n1, n2, n3⟩ := ih_len hok
 have KW := Lib.hid (fun V (h : Below w.heap.size w V) => all_any c.fl x.whn _ x.wv V (hc.later h) hcl hcf (hx.m.later h) (by omega) hxf.whn)
 have KM := Lib.hid (fun (p : Al × Value) (hp : p ∈ l) (hr : rightA p.1 = true) V (h : Below w.heap.size w V) => all_any p.1.fl x.frm p.2 x.fv V ((hl.fld p hp).1.later h) (by have := rightA_len hr; omega) (hl.fld p hp).2.fl (hx.f.later h) (by omega) hxf.frm)
 have KA := Lib.hid (fun (p : Al × Value) (hp : p ∈ l) (hr : rightA p.1 = true) V (h : Below w.heap.size w V) => alike_any x.bys p.1.fl c.fl x.bv p.2 _ V (RdAt.later hx.b h) ((hl.fld p hp).1.later h) (hc.later h) (by omega) (by have := rightA_len hr; omega) hcl)
 have KI := Lib.hid (fun (p : Al × Value) (hp : p ∈ l) (hr : rightA p.1 = true) V (h : Below w.heap.size w V) => id_any p.1.src p.1.fl p.1.lv p.1.c p.1.fr p.1.til p.2 V ((hl.fld p hp).1.later h) (idB_bound (rightA_who hr)))
 have HBY : Hid (byM x l id c.fl now = (allM c.fl x.whn && (l.filter (goesA now)).any fun p => goodBy x id c.fl p.1)) := Lib.hid rfl
 have HGD : Hid (∀ p, goodBy x id c.fl p = (allM p.fl x.frm && alikeM x.bys p.fl c.fl && (idA p != id))) := Lib.hid (fun _ => rfl)
 obtain ⟨la, lc, rfl, hlc, _⟩ := RdAt.shape hl.row
 have HL := Lib.hid hl
 have HFD := Lib.hid (fun p hp => (hl.fld p hp).1)
 generalize goodBy x id c.fl = GD at *
 generalize byM x l id c.fl now = R at *
 obtain ⟨bys, xlv, xc, frm, whn, bv, fv, wv⟩ := x
 dsimp only at *
 obtain ⟨ba, bc, hba, _, _⟩ := RdAt.shape hx.b
 dsimp only at hba
 subst hba
 obtain ⟨ra, rc, hra, _, _⟩ := RdAt.shape hx.f
 dsimp only at hra
 subst hra
 obtain ⟨wa, wc, hwa, _, _⟩ := RdAt.shape hx.m
 dsimp only at hwa
 subst hwa
 obtain ⟨src, fl, alv, ac, fr, til⟩ := c
 dsimp only at *
 obtain ⟨W1, hW1⟩ : ∃ z, w.alloc (.cells #[.slice ba bys.length bc, .int .i64 xlv, .int .u32 xc, .slice ra frm.length rc, .slice wa whn.length wc] 51) = z := ⟨_, rfl⟩
 have g1 : C5 w.heap.size (.slice ba bys.length bc) (.int .i64 xlv) (.int .u32 xc) (.slice ra frm.length rc) (.slice wa whn.length wc) W1 := by rw [← hW1]; exact box5n w _ _ _ _ _ _
 have s1 : W1.heap.size = w.heap.size + 1 := by rw [← hW1, World.size_alloc]
 have b1 : Below w.heap.size w W1 := by rw [← hW1]; exact alloc_below _ _
 obtain ⟨W2, hW2⟩ : ∃ z, W1.alloc (.cells #[.int .u64 id] 69) = z := ⟨_, rfl⟩
 have g2 : W2.cell? ⟨w.heap.size + 1, 0, none⟩ = some (.int .u64 id) := by rw [← s1, ← hW2, cell_of_row _ _ _ _ _ _ (heap_alloc_new W1 _)]; rfl
 have s2 : W2.heap.size = w.heap.size + 1 + 1 := by rw [← hW2, World.size_alloc, s1]
 have b2 : Below W1.heap.size W1 W2 := by rw [← hW2]; exact alloc_below _ _
 obtain ⟨W3, hW3⟩ : ∃ z, W2.alloc (.cells #[.string src, .slice fa fl.length fc, .int .i64 alv, .int .u32 ac, .int .i64 fr, .int .i64 til] 54) = z := ⟨_, rfl⟩
 have g3 : C6 (w.heap.size + 1 + 1) (.string src) (.slice fa fl.length fc) (.int .i64 alv) (.int .u32 ac) (.int .i64 fr) (.int .i64 til) W3 := by rw [← s2, ← hW3]; exact box6n W2 _ _ _ _ _ _ _
 have s3 : W3.heap.size = w.heap.size + 1 + 1 + 1 := by rw [← hW3, World.size_alloc, s2]
 have b3 : Below W2.heap.size W2 W3 := by rw [← hW3]; exact alloc_below _ _
 obtain ⟨W4, hW4⟩ : ∃ z, W3.alloc (.cells #[.bool false] 4) = z := ⟨_, rfl⟩
 have g4 : W4.heap[w.heap.size + 1 + 1 + 1]? = some (.cells #[.bool false] 4 (0, 0)) := by rw [← s3, ← hW4]; exact World.alloc_heap_new W3 _
 have s4 : W4.heap.size = w.heap.size + 1 + 1 + 1 + 1 := by rw [← hW4, World.size_alloc, s3]
 have b4 : Below W3.heap.size W3 W4 := by rw [← hW4]; exact alloc_below _ _
 have hB4 : Below w.heap.size w W4 := ((b1.trans (b2.mono b1.size)).trans (b3.mono (by omega))).trans (b4.mono (by omega))
 have G1 := Lib.hid (((g1.later b2 (by omega)).later b3 (by omega)).later b4 (by omega))
 have G2 := Lib.hid (keep_cell (keep_cell g2 b3 (by show w.heap.size + 1 < W2.heap.size; omega)) b4 (by show w.heap.size + 1 < W3.heap.size; omega))
 have G3 := Lib.hid (g3.later b4 (by omega))
 have G4 : Boxed W4 (w.heap.size + 1 + 1 + 1) 4 (.bool false) := g4
 have S4 := Lib.hid s4
 have B4 := Lib.hid hB4
 clear hx hxf hok hl hc hcf n1 n2 n3 g1 g2 g3 g4 b1 b2 b3 b4 hB4
 obtain ⟨r0, r1, r2, r3, r4⟩ := G1.out
 obtain ⟨x0, x1, x2, x3, x4, x5⟩ := G3.out
 have c4 := G4.cell
 have f4 := G4.frozen
 refine (callsIn_wide (n := 6)).1 ?_
 refine callsIn_of_wp_marks Tryz.func30 rfl trivial ?_ rfl
 simp only [Tryz.ntmps30, List.size_toArray, List.length_cons, List.length_nil, Nat.reduceAdd, Nat.reduceSub, Array.replicate_succ, Array.replicate_zero, List.push_toArray, List.append_toArray, List.nil_append, List.cons_append]
 gi_wp2_with fail
 refine ⟨trivial, ?_⟩
 have kk := KW.out _ B4.out
 cases hwh : allM fl whn
 ·have HF : Hid (R = false) := Lib.hid (by rw [HBY.out, hwh]; rfl)
  rw [hwh] at kk
  clear hwh
  refine (callsIn_wide.2 kk).mono ?_
  rintro e w5 ⟨rfl, hb5⟩
  have G5 := G4.kept (below_grown hb5 none) (by simp)
  have HB5 := Lib.hid (B4.out.trans (hb5.mono B4.out.size))
  have c4 := G5.cell
  have f4 := G5.frozen
  clear kk hb5 r0 r1 r2 r3 r4 x0 x1 x2 x3 x4 x5 hW1 hW2 hW3 hW4 s1 s2 s3 s4
  gi_wp2
  refine ⟨.bool false, ?_, by rw [HF.out], HB5.out.setCell (p := ⟨w.heap.size + 1 + 1 + 1, 0, none⟩) (by show w.heap.size ≤ w.heap.size + 1 + 1 + 1; omega) _⟩
  have hc := (G5.set (.bool false)).cell
  simp [results, Tryz.f30, go_sem, hc]
 ·rw [hwh] at kk
  have HWH := Lib.hid hwh
  clear hwh
  refine (callsIn_wide.2 kk).mono ?_
  rintro e w5 ⟨rfl, hb5⟩
  have hB5 := B4.out.trans (hb5.mono B4.out.size)
  have G5 := G4.kept (below_grown hb5 none) (by simp)
  have hs5 := hb5.size
  have D1 := Lib.hid (C5.later G1.out hb5 (by omega))
  have D2 := Lib.hid (keep_cell G2.out hb5 (by omega))
  have D3 := Lib.hid (C6.later G3.out hb5 (by omega))
  rw [s4] at hs5
  have HB5 := Lib.hid hB5
  clear kk hb5 hB5 r0 r1 r2 r3 r4 x0 x1 x2 x3 x4 x5 hW1 hW2 hW3 hW4 s1 s2 s3 s4 G4 c4 f4
  gi_wp2_with fail
  refine ⟨trivial, ?_⟩
  refine (callsIn_wide.2 (firing_any la l.length lc now _)).mono ?_
  rintro e w6 ⟨rfl, hw6⟩
  have e0 : w6.cell? ⟨w5.heap.size, 0, none⟩ = some (.slice la l.length lc) := by
   rw [hw6, World.cell?_alloc_lt _ _ _ (by rw [World.size_alloc]; exact Nat.lt_succ_self _), cell_of_row _ _ _ _ _ _ (heap_alloc_new w5 _)]; rfl
  have e1 : w6.cell? ⟨w5.heap.size + 1, 0, none⟩ = some (.int .i64 now) := by
   rw [hw6, ← World.size_alloc w5 (.cells #[.slice la l.length lc] 31), cell_of_row _ _ _ _ _ _ (heap_alloc_new _ _)]; rfl
  have hb6 : Below w5.heap.size w5 w6 := by rw [hw6]; exact (alloc_below _ _).trans ((alloc_below _ _).mono (by rw [World.size_alloc]; omega))
  have hs6 : w6.heap.size = w5.heap.size + 1 + 1 := by rw [hw6, World.size_alloc, World.size_alloc]
  have G6 := G5.kept (below_grown hb6 none) (by simp)
  have D1 := Lib.hid (C5.later D1.out hb6 (by omega))
  have D2 := Lib.hid (keep_cell D2.out hb6 (by show w.heap.size + 1 < w5.heap.size; omega))
  have D3 := Lib.hid (C6.later D3.out hb6 (by omega))
  have hB6 := HB5.out.trans (hb6.mono HB5.out.size)
  have HL6 := HL.out.later hB6
  clear hw6 hb6 G5
  gi_wp2_with fail
  refine wpIn_rangeFunc_ownH rfl (by omega) (gf := 92) (lb := #[.pointer (some ⟨w5.heap.size, 0, none⟩), .pointer (some ⟨w5.heap.size + 1, 0, none⟩)]) rfl trivial (enters_of Tryz.func92 (by kernel_rfl) rfl)
   (firing_stops (6 - 1) (by omega) l now w5.heap.size w6 _ HL6 hlen e0 e1 (by omega)) belowK_t (belowK_b (Nat.le_refl _)) (Below.refl _ _) (fun _ => rfl)
   (fun pre W => Below w6.heap.size w6 W ∧ ∀ y ∈ pre, GD y.1.1 = false)
   (fun c pre W => c = .ret ∧ (∃ y ∈ pre, GD y.1.1 = true) ∧ W.cell? ⟨w.heap.size + 1 + 1 + 1, 0, none⟩ = some (.bool true) ∧ Below w.heap.size w W)
   (OwnFrom.and (ownFrom_below (Nat.le_refl _) (Nat.le_refl _)) (ownFrom_pure _ _))
   (fun c => OwnFrom.and (ownFrom_pure _ (fun _ => c = .ret)) (OwnFrom.and (ownFrom_pure _ _) (OwnFrom.and (Own.from (fun s A B row hs hg hr => cell_kept hs hg hr) _) (ownFrom_below (Nat.le_refl _) (by omega)))))
   ⟨Below.refl _ _, fun y hy => by cases hy⟩
   (fun x a' W => ∃ Bx, w6.heap.size ≤ Bx ∧ Bx < W.heap.size ∧ C6 Bx (.string x.1.1.src) x.1.2 (.int .i64 x.1.1.lv) (.int .u32 x.1.1.c) (.int .i64 x.1.1.fr) (.int .i64 x.1.1.til) W ∧ a' = { tmps := #[.agg #[.slice ba bys.length bc, .int .i64 xlv, .int .u32 xc, .slice ra frm.length rc, .slice wa whn.length wc], .slice la l.length lc, .int .u64 id, AlV { src := src, fl := fl, lv := alv, c := ac, fr := fr, til := til } (.slice fa fl.length fc), .int .i64 now, .pointer (some ⟨w.heap.size, 0, none⟩), undef, .pointer (some ⟨w.heap.size + 1, 0, none⟩), .pointer (some ⟨w.heap.size + 1 + 1, 0, none⟩), undef, .pointer (some ⟨w.heap.size + 1 + 1 + 1, 0, none⟩), .pointer (some ⟨Bx, 0, none⟩), .pointer (some ⟨w.heap.size + 1 + 1, 1, none⟩), .slice fa fl.length fc, .pointer (some ⟨w.heap.size, 4, none⟩), .slice wa whn.length wc, .bool true, .bool false, .slice la l.length lc, .int .i64 now, .func (.func 92) #[] #[.pointer (some ⟨w5.heap.size, 0, none⟩), .pointer (some ⟨w5.heap.size + 1, 0, none⟩)], AlV x.1.1 x.1.2, undef, undef, undef, undef, undef, undef, undef, undef, undef, undef, undef, undef, undef, undef, undef, undef, undef, undef, undef, undef], defers := [] })
   (fun x a' _ X Y row hs hg hr => by
    obtain ⟨Bx, h1, h2, ⟨z0, z1, z2, z3, z4, z5⟩, h4⟩ := hs
    have hr' := fun r e => (hr r e).2
    exact ⟨Bx, h1, Nat.lt_of_lt_of_le h2 hg.size, ⟨cell_kept z0 hg hr', cell_kept z1 hg hr', cell_kept z2 hg hr', cell_kept z3 hg hr', cell_kept z4 hg hr', cell_kept z5 hg hr'⟩, h4⟩)
   ?assign ?body ?done ?stop
  case assign =>
   rintro id' pre ⟨⟨⟨src', fl', lv', c', fr', til'⟩, fv'⟩, hp, hright⟩ W K ⟨hB, hno⟩ hK
   obtain ⟨fa', fc', hfv, _, _⟩ := RdAt.shape (HFD.out _ hp)
   dsimp only at hfv
   subst hfv
   have hKK := Lib.hid hK
   clear hK
   gi_wp2
   refine hKK.out _ _ ((KeepsOthers.alloc _ _).from _) ((Below.refl _ W).alloc hB.size _) ⟨hB.alloc hB.size _, hno⟩ ⟨W.heap.size, hB.size, by rw [World.size_alloc]; omega, box6n W _ _ _ _ _ _ _, rfl⟩
  case body =>
   rintro id' pre ⟨⟨⟨src', fl', lv', c', fr', til'⟩, fv'⟩, hp, hright⟩ a' W hid ⟨rr, hrr⟩ ⟨hB, hno⟩ ⟨Bx, hBx, hBl, hCA, rfl⟩ hlt
   obtain ⟨fa', fc', hfv, _, _⟩ := RdAt.shape (HFD.out _ hp)
   dsimp only at hfv
   subst hfv
   have KM' := Lib.hid (fun V h => KM.out _ hp hright V h)
   have KA' := Lib.hid (fun V h => KA.out _ hp hright V h)
   have KI' := Lib.hid (fun V h => KI.out _ hp hright V h)
   have HG1 := Lib.hid (HGD.out ⟨src', fl', lv', c', fr', til'⟩)
   have hId : idA ⟨src', fl', lv', c', fr', til'⟩ = shortL (idB src' fl') := rfl
   rw [hId] at HG1
   dsimp only at *
   have HNO := Lib.hid hno
   have HBW := Lib.hid hB
   have hBw := hB6.trans (hB.mono hB6.size)
   have HBw := Lib.hid hBw
   obtain ⟨r0, r1, r2, r3, r4⟩ := C5.later D1.out hB (by omega)
   have i0 := keep_cell D2.out hB (by show w.heap.size + 1 < w6.heap.size; omega)
   obtain ⟨x0, x1, x2, x3, x4, x5⟩ := C6.later D3.out hB (by omega)
   have G7 := G6.kept (below_grown hB none) (by simp)
   obtain ⟨y0, y1, y2, y3, y4, y5⟩ := hCA
   have hsw := hB.size
   have ltr : w.heap.size < W.heap.size := by omega
   have lti : w.heap.size + 1 < W.heap.size := by omega
   have ltx : w.heap.size + 1 + 1 < W.heap.size := by omega
   have KEEP : Hid (∀ (e : Bool) (V : World), Below W.heap.size W V → (GD ⟨src', fl', lv', c', fr', til'⟩ = e) → e = false → KeepsFrom w6.heap.size W V ∧ Below w6.heap.size W V ∧ Below w6.heap.size w6 V ∧ ∀ y ∈ pre ++ [(⟨(⟨src', fl', lv', c', fr', til'⟩, .slice fa' fl'.length fc'), hp, hright⟩ : AlIn l)], GD y.1.1 = false) := Lib.hid (by
    intro e V hV hg he
    refine ⟨(KeepsOthers.of_grownBy (below_grown hV none) (fun j o e => by cases e)).from _, hV.mono hsw, hB.trans (hV.mono hsw), ?_⟩
    intro y hy
    rcases List.mem_append.1 hy with h | h
    ·exact hno y h
    ·rw [List.mem_singleton.1 h]; rw [← he, ← hg])
   have LEAVE : Hid (∀ (V : World), Below W.heap.size W V → (GD ⟨src', fl', lv', c', fr', til'⟩ = true) → KeepsFrom w6.heap.size W (V.setCell ⟨w.heap.size + 1 + 1 + 1, 0, none⟩ (.bool true)) ∧ Code.ret = Code.ret ∧ (∃ y ∈ pre ++ [(⟨(⟨src', fl', lv', c', fr', til'⟩, .slice fa' fl'.length fc'), hp, hright⟩ : AlIn l)], GD y.1.1 = true) ∧ (V.setCell ⟨w.heap.size + 1 + 1 + 1, 0, none⟩ (.bool true)).cell? ⟨w.heap.size + 1 + 1 + 1, 0, none⟩ = some (.bool true) ∧ Below w.heap.size w (V.setCell ⟨w.heap.size + 1 + 1 + 1, 0, none⟩ (.bool true))) := Lib.hid (by
    intro V hV hg
    have G8 := G7.kept (below_grown hV none) (by simp)
    refine ⟨((KeepsOthers.of_grownBy (below_grown hV none) (fun j o e => by cases e)).trans (KeepsOthers.setCell _ _ _)).from _, rfl, ⟨_, List.mem_append.2 (.inr (List.mem_singleton.2 rfl)), hg⟩, (G8.set (.bool true)).cell, ?_⟩
    exact (hBw.trans (hV.mono hBw.size)).setCell (p := ⟨w.heap.size + 1 + 1 + 1, 0, none⟩) (by show w.heap.size ≤ w.heap.size + 1 + 1 + 1; omega) _)
   have GG7 := Lib.hid G7
   have c4 := G7.cell
   have f4 := G7.frozen
   clear hB hno hBw HNO HL6 e0 e1 D1 D2 D3 hB6 HFD KM KA KI HGD G6 G7 hId
   gi_wp2_with fail
   cases hAM : allM fl' frm
   ·have HF : Hid (GD ⟨src', fl', lv', c', fr', til'⟩ = false) := Lib.hid (by rw [HG1.out, hAM]; rfl)
    have kk := KM'.out W.drew (HBw.out.trans ((Below.refl _ _).drew.mono HBw.out.size))
    rw [hAM] at kk
    clear hAM HG1
    refine region_inRound (S := (fun W => W.cell? ⟨w.heap.size, 0, none⟩ = some (.slice ba bys.length bc) ∧ W.cell? ⟨w.heap.size, 1, none⟩ = some (.int .i64 xlv) ∧ W.cell? ⟨w.heap.size, 2, none⟩ = some (.int .u32 xc) ∧ W.cell? ⟨w.heap.size, 3, none⟩ = some (.slice ra frm.length rc) ∧ W.cell? ⟨w.heap.size, 4, none⟩ = some (.slice wa whn.length wc) ∧ W.cell? ⟨w.heap.size + 1, 0, none⟩ = some (.int .u64 id) ∧ W.cell? ⟨w.heap.size + 1 + 1, 0, none⟩ = some (.string src) ∧ W.cell? ⟨w.heap.size + 1 + 1, 1, none⟩ = some (.slice fa fl.length fc) ∧ W.cell? ⟨w.heap.size + 1 + 1, 2, none⟩ = some (.int .i64 alv) ∧ W.cell? ⟨w.heap.size + 1 + 1, 3, none⟩ = some (.int .u32 ac) ∧ W.cell? ⟨w.heap.size + 1 + 1, 4, none⟩ = some (.int .i64 fr) ∧ W.cell? ⟨w.heap.size + 1 + 1, 5, none⟩ = some (.int .i64 til) ∧ W.cell? ⟨Bx, 0, none⟩ = some (.string src') ∧ W.cell? ⟨Bx, 1, none⟩ = some (.slice fa' fl'.length fc') ∧ W.cell? ⟨Bx, 2, none⟩ = some (.int .i64 lv') ∧ W.cell? ⟨Bx, 3, none⟩ = some (.int .u32 c') ∧ W.cell? ⟨Bx, 4, none⟩ = some (.int .i64 fr') ∧ W.cell? ⟨Bx, 5, none⟩ = some (.int .i64 til'))) (by kernel_rfl) (fun ⟨_, _, h⟩ => h) (by kernel_rfl) ⟨r0, r1, r2, r3, r4, i0, x0, x1, x2, x3, x4, x5, y0, y1, y2, y3, y4, y5⟩ (fun hHeld => ?_)
    have hd : Below W.heap.size W W.drew := (Below.refl _ _).drew
    refine hT (i := 0) (v := ?_) rfl rfl hHeld ?_ ?_
    rotate_left
    ·intro wh hz; iterate 17 obtain ⟨_, hz⟩ := hz
     go_simp
     (try with_reducible rfl)
    simp only [Act.put, List.setIfInBounds_toArray, List.set_cons_zero, List.set_cons_succ]
    refine hT (i := 1) (v := ?_) rfl rfl hHeld ?_ ?_
    rotate_left
    ·intro wh hz; iterate 17 obtain ⟨_, hz⟩ := hz
     go_simp
     (try with_reducible rfl)
    simp only [Act.put, List.setIfInBounds_toArray, List.set_cons_zero, List.set_cons_succ]
    refine hT (i := 2) (v := ?_) rfl rfl hHeld ?_ ?_
    rotate_left
    ·intro wh hz; iterate 17 obtain ⟨_, hz⟩ := hz
     go_simp
     (try with_reducible rfl)
    simp only [Act.put, List.setIfInBounds_toArray, List.set_cons_zero, List.set_cons_succ]
    refine hT (i := 3) (v := ?_) rfl rfl hHeld ?_ ?_
    rotate_left
    ·intro wh hz; iterate 17 obtain ⟨_, hz⟩ := hz
     go_simp
     (try with_reducible rfl)
    simp only [Act.put, List.setIfInBounds_toArray, List.set_cons_zero, List.set_cons_succ]
    refine held_call (i := 4) rfl (by kernel_rfl) (by rfl) (fun K hK => ?_)
    (go_simp; go_at_call 62; refine kk.mono ?_; rintro e w7 ⟨rfl, hb7⟩; have hB7 := hd.trans (hb7.mono hd.size))
    refine hK.out _ _ ⟨keep_cell r0 hB7 ltr, keep_cell r1 hB7 ltr, keep_cell r2 hB7 ltr, keep_cell r3 hB7 ltr, keep_cell r4 hB7 ltr, keep_cell i0 hB7 lti, keep_cell x0 hB7 ltx, keep_cell x1 hB7 ltx, keep_cell x2 hB7 ltx, keep_cell x3 hB7 ltx, keep_cell x4 hB7 ltx, keep_cell x5 hB7 ltx, keep_cell y0 hB7 hBl, keep_cell y1 hB7 hBl, keep_cell y2 hB7 hBl, keep_cell y3 hB7 hBl, keep_cell y4 hB7 hBl, keep_cell y5 hB7 hBl⟩ (fun hHeld => ?_)
    clear hK K
    (try simp only [Act.put, List.setIfInBounds_toArray, List.set_cons_zero, List.set_cons_succ])
    refine hT (i := 5) (v := ?_) rfl rfl hHeld ?_ ?_
    rotate_left
    ·intro wh hz; iterate 17 obtain ⟨_, hz⟩ := hz
     go_simp
     (try with_reducible rfl)
    simp only [Act.put, List.setIfInBounds_toArray, List.set_cons_zero, List.set_cons_succ]
    refine held_skip (i := 6) rfl rfl (by kernel_rfl) (by kernel_rfl) (by kernel_rfl) (fun _ _ _ h => h) (by rfl) hHeld ?_
    simp only [Act.put, List.setIfInBounds_toArray, List.set_cons_zero, List.set_cons_succ]
    refine held_skip (i := 7) rfl rfl (by kernel_rfl) (by kernel_rfl) (by kernel_rfl) (fun _ _ _ h => h) (by rfl) hHeld ?_
    simp only [Act.put, List.setIfInBounds_toArray, List.set_cons_zero, List.set_cons_succ]
    refine held_skip (i := 8) rfl rfl (by kernel_rfl) (by kernel_rfl) (by kernel_rfl) (fun _ _ _ h => h) (by rfl) hHeld ?_
    simp only [Act.put, List.setIfInBounds_toArray, List.set_cons_zero, List.set_cons_succ]
    refine held_skip (i := 9) rfl rfl (by kernel_rfl) (by kernel_rfl) (by kernel_rfl) (fun _ _ _ h => h) (by rfl) hHeld ?_
    simp only [Act.put, List.setIfInBounds_toArray, List.set_cons_zero, List.set_cons_succ]
    refine held_skip (i := 10) rfl rfl (by kernel_rfl) (by kernel_rfl) (by kernel_rfl) (fun _ _ _ h => h) (by rfl) hHeld ?_
    simp only [Act.put, List.setIfInBounds_toArray, List.set_cons_zero, List.set_cons_succ]
    refine held_skip (i := 11) rfl rfl (by kernel_rfl) (by kernel_rfl) (by kernel_rfl) (fun _ _ _ h => h) (by rfl) hHeld ?_
    simp only [Act.put, List.setIfInBounds_toArray, List.set_cons_zero, List.set_cons_succ]
    refine held_skip (i := 12) rfl rfl (by kernel_rfl) (by kernel_rfl) (by kernel_rfl) (fun _ _ _ h => h) (by rfl) hHeld ?_
    simp only [Act.put, List.setIfInBounds_toArray, List.set_cons_zero, List.set_cons_succ]
    refine hT (i := 13) (v := ?_) rfl rfl hHeld ?_ ?_
    rotate_left
    ·intro wh hz; iterate 17 obtain ⟨_, hz⟩ := hz
     go_simp
     (try with_reducible rfl)
    simp only [Act.put, List.setIfInBounds_toArray, List.set_cons_zero, List.set_cons_succ]
    refine hT (i := 14) (v := ?_) rfl rfl hHeld ?_ ?_
    rotate_left
    ·intro wh hz; iterate 17 obtain ⟨_, hz⟩ := hz
     go_simp
     (try with_reducible rfl)
    simp only [Act.put, List.setIfInBounds_toArray, List.set_cons_zero, List.set_cons_succ]
    refine held_skip (i := 15) rfl rfl (by kernel_rfl) (by kernel_rfl) (by kernel_rfl) (fun _ _ _ h => h) (by rfl) hHeld ?_
    simp only [Act.put, List.setIfInBounds_toArray, List.set_cons_zero, List.set_cons_succ]
    refine held_skip (i := 16) rfl rfl (by kernel_rfl) (by kernel_rfl) (by kernel_rfl) (fun _ _ _ h => h) (by rfl) hHeld ?_
    simp only [Act.put, List.setIfInBounds_toArray, List.set_cons_zero, List.set_cons_succ]
    refine held_skip (i := 17) rfl rfl (by kernel_rfl) (by kernel_rfl) (by kernel_rfl) (fun _ _ _ h => h) (by rfl) hHeld ?_
    simp only [Act.put, List.setIfInBounds_toArray, List.set_cons_zero, List.set_cons_succ]
    refine held_skip (i := 18) rfl rfl (by kernel_rfl) (by kernel_rfl) (by kernel_rfl) (fun _ _ _ h => h) (by rfl) hHeld ?_
    simp only [Act.put, List.setIfInBounds_toArray, List.set_cons_zero, List.set_cons_succ]
    refine hT (i := 19) (v := ?_) rfl rfl hHeld ?_ ?_
    rotate_left
    ·intro wh hz; iterate 17 obtain ⟨_, hz⟩ := hz
     go_simp
     (try with_reducible rfl)
    simp only [Act.put, List.setIfInBounds_toArray, List.set_cons_zero, List.set_cons_succ]
    refine wpAnyH_done (by kernel_rfl) ?_ _
    have HB7 := Lib.hid hB7
    clear hB7 c4 f4
    gi_wp2
    exact KEEP.out _ _ HB7.out HF.out rfl
   cases hAK : alikeM bys fl' fl
   ·have HF : Hid (GD ⟨src', fl', lv', c', fr', til'⟩ = false) := Lib.hid (by rw [HG1.out, hAM, hAK]; rfl)
    have kk := KM'.out W.drew (HBw.out.trans ((Below.refl _ _).drew.mono HBw.out.size))
    rw [hAM] at kk
    have KAK := Lib.hid (fun V (h : Below W.heap.size W V) => KA'.out V (HBw.out.trans (h.mono HBw.out.size)))
    rw [hAK] at KAK
    have KID := Lib.hid (fun V (h : Below W.heap.size W V) => KI'.out V (HBw.out.trans (h.mono HBw.out.size)))
    clear hAM hAK HG1
    refine region_inRound (S := (fun W => W.cell? ⟨w.heap.size, 0, none⟩ = some (.slice ba bys.length bc) ∧ W.cell? ⟨w.heap.size, 1, none⟩ = some (.int .i64 xlv) ∧ W.cell? ⟨w.heap.size, 2, none⟩ = some (.int .u32 xc) ∧ W.cell? ⟨w.heap.size, 3, none⟩ = some (.slice ra frm.length rc) ∧ W.cell? ⟨w.heap.size, 4, none⟩ = some (.slice wa whn.length wc) ∧ W.cell? ⟨w.heap.size + 1, 0, none⟩ = some (.int .u64 id) ∧ W.cell? ⟨w.heap.size + 1 + 1, 0, none⟩ = some (.string src) ∧ W.cell? ⟨w.heap.size + 1 + 1, 1, none⟩ = some (.slice fa fl.length fc) ∧ W.cell? ⟨w.heap.size + 1 + 1, 2, none⟩ = some (.int .i64 alv) ∧ W.cell? ⟨w.heap.size + 1 + 1, 3, none⟩ = some (.int .u32 ac) ∧ W.cell? ⟨w.heap.size + 1 + 1, 4, none⟩ = some (.int .i64 fr) ∧ W.cell? ⟨w.heap.size + 1 + 1, 5, none⟩ = some (.int .i64 til) ∧ W.cell? ⟨Bx, 0, none⟩ = some (.string src') ∧ W.cell? ⟨Bx, 1, none⟩ = some (.slice fa' fl'.length fc') ∧ W.cell? ⟨Bx, 2, none⟩ = some (.int .i64 lv') ∧ W.cell? ⟨Bx, 3, none⟩ = some (.int .u32 c') ∧ W.cell? ⟨Bx, 4, none⟩ = some (.int .i64 fr') ∧ W.cell? ⟨Bx, 5, none⟩ = some (.int .i64 til'))) (by kernel_rfl) (fun ⟨_, _, h⟩ => h) (by kernel_rfl) ⟨r0, r1, r2, r3, r4, i0, x0, x1, x2, x3, x4, x5, y0, y1, y2, y3, y4, y5⟩ (fun hHeld => ?_)
    have hd : Below W.heap.size W W.drew := (Below.refl _ _).drew
    refine hT (i := 0) (v := ?_) rfl rfl hHeld ?_ ?_
    rotate_left
    ·intro wh hz; iterate 17 obtain ⟨_, hz⟩ := hz
     go_simp
     (try with_reducible rfl)
    simp only [Act.put, List.setIfInBounds_toArray, List.set_cons_zero, List.set_cons_succ]
    refine hT (i := 1) (v := ?_) rfl rfl hHeld ?_ ?_
    rotate_left
    ·intro wh hz; iterate 17 obtain ⟨_, hz⟩ := hz
     go_simp
     (try with_reducible rfl)
    simp only [Act.put, List.setIfInBounds_toArray, List.set_cons_zero, List.set_cons_succ]
    refine hT (i := 2) (v := ?_) rfl rfl hHeld ?_ ?_
    rotate_left
    ·intro wh hz; iterate 17 obtain ⟨_, hz⟩ := hz
     go_simp
     (try with_reducible rfl)
    simp only [Act.put, List.setIfInBounds_toArray, List.set_cons_zero, List.set_cons_succ]
    refine hT (i := 3) (v := ?_) rfl rfl hHeld ?_ ?_
    rotate_left
    ·intro wh hz; iterate 17 obtain ⟨_, hz⟩ := hz
     go_simp
     (try with_reducible rfl)
    simp only [Act.put, List.setIfInBounds_toArray, List.set_cons_zero, List.set_cons_succ]
    refine held_call (i := 4) rfl (by kernel_rfl) (by rfl) (fun K hK => ?_)
    (go_simp; go_at_call 62; refine kk.mono ?_; rintro e w7 ⟨rfl, hb7⟩; have hB7 := hd.trans (hb7.mono hd.size))
    refine hK.out _ _ ⟨keep_cell r0 hB7 ltr, keep_cell r1 hB7 ltr, keep_cell r2 hB7 ltr, keep_cell r3 hB7 ltr, keep_cell r4 hB7 ltr, keep_cell i0 hB7 lti, keep_cell x0 hB7 ltx, keep_cell x1 hB7 ltx, keep_cell x2 hB7 ltx, keep_cell x3 hB7 ltx, keep_cell x4 hB7 ltx, keep_cell x5 hB7 ltx, keep_cell y0 hB7 hBl, keep_cell y1 hB7 hBl, keep_cell y2 hB7 hBl, keep_cell y3 hB7 hBl, keep_cell y4 hB7 hBl, keep_cell y5 hB7 hBl⟩ (fun hHeld => ?_)
    clear hK K
    (try simp only [Act.put, List.setIfInBounds_toArray, List.set_cons_zero, List.set_cons_succ])
    refine hT (i := 5) (v := ?_) rfl rfl hHeld ?_ ?_
    rotate_left
    ·intro wh hz; iterate 17 obtain ⟨_, hz⟩ := hz
     go_simp
     (try with_reducible rfl)
    simp only [Act.put, List.setIfInBounds_toArray, List.set_cons_zero, List.set_cons_succ]
    refine hT (i := 6) (v := ?_) rfl rfl hHeld ?_ ?_
    rotate_left
    ·intro wh hz; iterate 17 obtain ⟨_, hz⟩ := hz
     go_simp
     (try with_reducible rfl)
    simp only [Act.put, List.setIfInBounds_toArray, List.set_cons_zero, List.set_cons_succ]
    refine hT (i := 7) (v := ?_) rfl rfl hHeld ?_ ?_
    rotate_left
    ·intro wh hz; iterate 17 obtain ⟨_, hz⟩ := hz
     go_simp
     (try with_reducible rfl)
    simp only [Act.put, List.setIfInBounds_toArray, List.set_cons_zero, List.set_cons_succ]
    refine hT (i := 8) (v := ?_) rfl rfl hHeld ?_ ?_
    rotate_left
    ·intro wh hz; iterate 17 obtain ⟨_, hz⟩ := hz
     go_simp
     (try with_reducible rfl)
    simp only [Act.put, List.setIfInBounds_toArray, List.set_cons_zero, List.set_cons_succ]
    refine hT (i := 9) (v := ?_) rfl rfl hHeld ?_ ?_
    rotate_left
    ·intro wh hz; iterate 17 obtain ⟨_, hz⟩ := hz
     go_simp
     (try with_reducible rfl)
    simp only [Act.put, List.setIfInBounds_toArray, List.set_cons_zero, List.set_cons_succ]
    refine hT (i := 10) (v := ?_) rfl rfl hHeld ?_ ?_
    rotate_left
    ·intro wh hz; iterate 17 obtain ⟨_, hz⟩ := hz
     go_simp
     (try with_reducible rfl)
    simp only [Act.put, List.setIfInBounds_toArray, List.set_cons_zero, List.set_cons_succ]
    refine hT (i := 11) (v := ?_) rfl rfl hHeld ?_ ?_
    rotate_left
    ·intro wh hz; iterate 17 obtain ⟨_, hz⟩ := hz
     go_simp
     (try with_reducible rfl)
    simp only [Act.put, List.setIfInBounds_toArray, List.set_cons_zero, List.set_cons_succ]
    refine held_call (i := 12) rfl (by kernel_rfl) (by rfl) (fun K hK => ?_)
    (go_simp; go_at_call 64; refine (KAK.out _ hB7).mono ?_; rintro e w8 ⟨rfl, hb8⟩; have hB8 := hB7.trans (hb8.mono hB7.size))
    refine hK.out _ _ ⟨keep_cell r0 hB8 ltr, keep_cell r1 hB8 ltr, keep_cell r2 hB8 ltr, keep_cell r3 hB8 ltr, keep_cell r4 hB8 ltr, keep_cell i0 hB8 lti, keep_cell x0 hB8 ltx, keep_cell x1 hB8 ltx, keep_cell x2 hB8 ltx, keep_cell x3 hB8 ltx, keep_cell x4 hB8 ltx, keep_cell x5 hB8 ltx, keep_cell y0 hB8 hBl, keep_cell y1 hB8 hBl, keep_cell y2 hB8 hBl, keep_cell y3 hB8 hBl, keep_cell y4 hB8 hBl, keep_cell y5 hB8 hBl⟩ (fun hHeld => ?_)
    clear hK K
    (try simp only [Act.put, List.setIfInBounds_toArray, List.set_cons_zero, List.set_cons_succ])
    refine hT (i := 13) (v := ?_) rfl rfl hHeld ?_ ?_
    rotate_left
    ·intro wh hz; iterate 17 obtain ⟨_, hz⟩ := hz
     go_simp
     (try with_reducible rfl)
    simp only [Act.put, List.setIfInBounds_toArray, List.set_cons_zero, List.set_cons_succ]
    refine hT (i := 14) (v := ?_) rfl rfl hHeld ?_ ?_
    rotate_left
    ·intro wh hz; iterate 17 obtain ⟨_, hz⟩ := hz
     go_simp
     (try with_reducible rfl)
    simp only [Act.put, List.setIfInBounds_toArray, List.set_cons_zero, List.set_cons_succ]
    refine held_skip (i := 15) rfl rfl (by kernel_rfl) (by kernel_rfl) (by kernel_rfl) (fun _ _ _ h => h) (by rfl) hHeld ?_
    simp only [Act.put, List.setIfInBounds_toArray, List.set_cons_zero, List.set_cons_succ]
    refine held_skip (i := 16) rfl rfl (by kernel_rfl) (by kernel_rfl) (by kernel_rfl) (fun _ _ _ h => h) (by rfl) hHeld ?_
    simp only [Act.put, List.setIfInBounds_toArray, List.set_cons_zero, List.set_cons_succ]
    refine held_skip (i := 17) rfl rfl (by kernel_rfl) (by kernel_rfl) (by kernel_rfl) (fun _ _ _ h => h) (by rfl) hHeld ?_
    simp only [Act.put, List.setIfInBounds_toArray, List.set_cons_zero, List.set_cons_succ]
    refine held_skip (i := 18) rfl rfl (by kernel_rfl) (by kernel_rfl) (by kernel_rfl) (fun _ _ _ h => h) (by rfl) hHeld ?_
    simp only [Act.put, List.setIfInBounds_toArray, List.set_cons_zero, List.set_cons_succ]
    refine hT (i := 19) (v := ?_) rfl rfl hHeld ?_ ?_
    rotate_left
    ·intro wh hz; iterate 17 obtain ⟨_, hz⟩ := hz
     go_simp
     (try with_reducible rfl)
    simp only [Act.put, List.setIfInBounds_toArray, List.set_cons_zero, List.set_cons_succ]
    refine wpAnyH_done (by kernel_rfl) ?_ _
    have HB8 := Lib.hid hB8
    clear hB8 c4 f4
    gi_wp2
    exact KEEP.out _ _ HB8.out HF.out rfl
   have HF : Hid (GD ⟨src', fl', lv', c', fr', til'⟩ = (shortL (idB src' fl') != id)) := Lib.hid (by rw [HG1.out, hAM, hAK]; rfl)
   have kk := KM'.out W.drew (HBw.out.trans ((Below.refl _ _).drew.mono HBw.out.size))
   rw [hAM] at kk
   have KAK := Lib.hid (fun V (h : Below W.heap.size W V) => KA'.out V (HBw.out.trans (h.mono HBw.out.size)))
   rw [hAK] at KAK
   have KID := Lib.hid (fun V (h : Below W.heap.size W V) => KI'.out V (HBw.out.trans (h.mono HBw.out.size)))
   generalize shortL (idB src' fl') = sid at *
   clear hAM hAK HG1
   refine region_inRound (S := (fun W => W.cell? ⟨w.heap.size, 0, none⟩ = some (.slice ba bys.length bc) ∧ W.cell? ⟨w.heap.size, 1, none⟩ = some (.int .i64 xlv) ∧ W.cell? ⟨w.heap.size, 2, none⟩ = some (.int .u32 xc) ∧ W.cell? ⟨w.heap.size, 3, none⟩ = some (.slice ra frm.length rc) ∧ W.cell? ⟨w.heap.size, 4, none⟩ = some (.slice wa whn.length wc) ∧ W.cell? ⟨w.heap.size + 1, 0, none⟩ = some (.int .u64 id) ∧ W.cell? ⟨w.heap.size + 1 + 1, 0, none⟩ = some (.string src) ∧ W.cell? ⟨w.heap.size + 1 + 1, 1, none⟩ = some (.slice fa fl.length fc) ∧ W.cell? ⟨w.heap.size + 1 + 1, 2, none⟩ = some (.int .i64 alv) ∧ W.cell? ⟨w.heap.size + 1 + 1, 3, none⟩ = some (.int .u32 ac) ∧ W.cell? ⟨w.heap.size + 1 + 1, 4, none⟩ = some (.int .i64 fr) ∧ W.cell? ⟨w.heap.size + 1 + 1, 5, none⟩ = some (.int .i64 til) ∧ W.cell? ⟨Bx, 0, none⟩ = some (.string src') ∧ W.cell? ⟨Bx, 1, none⟩ = some (.slice fa' fl'.length fc') ∧ W.cell? ⟨Bx, 2, none⟩ = some (.int .i64 lv') ∧ W.cell? ⟨Bx, 3, none⟩ = some (.int .u32 c') ∧ W.cell? ⟨Bx, 4, none⟩ = some (.int .i64 fr') ∧ W.cell? ⟨Bx, 5, none⟩ = some (.int .i64 til'))) (by kernel_rfl) (fun ⟨_, _, h⟩ => h) (by kernel_rfl) ⟨r0, r1, r2, r3, r4, i0, x0, x1, x2, x3, x4, x5, y0, y1, y2, y3, y4, y5⟩ (fun hHeld => ?_)
   have hd : Below W.heap.size W W.drew := (Below.refl _ _).drew
   refine hT (i := 0) (v := ?_) rfl rfl hHeld ?_ ?_
   rotate_left
   ·intro wh hz; iterate 17 obtain ⟨_, hz⟩ := hz
    go_simp
    (try with_reducible rfl)
   simp only [Act.put, List.setIfInBounds_toArray, List.set_cons_zero, List.set_cons_succ]
   refine hT (i := 1) (v := ?_) rfl rfl hHeld ?_ ?_
   rotate_left
   ·intro wh hz; iterate 17 obtain ⟨_, hz⟩ := hz
    go_simp
    (try with_reducible rfl)
   simp only [Act.put, List.setIfInBounds_toArray, List.set_cons_zero, List.set_cons_succ]
   refine hT (i := 2) (v := ?_) rfl rfl hHeld ?_ ?_
   rotate_left
   ·intro wh hz; iterate 17 obtain ⟨_, hz⟩ := hz
    go_simp
    (try with_reducible rfl)
   simp only [Act.put, List.setIfInBounds_toArray, List.set_cons_zero, List.set_cons_succ]
   refine hT (i := 3) (v := ?_) rfl rfl hHeld ?_ ?_
   rotate_left
   ·intro wh hz; iterate 17 obtain ⟨_, hz⟩ := hz
    go_simp
    (try with_reducible rfl)
   simp only [Act.put, List.setIfInBounds_toArray, List.set_cons_zero, List.set_cons_succ]
   refine held_call (i := 4) rfl (by kernel_rfl) (by rfl) (fun K hK => ?_)
   (go_simp; go_at_call 62; refine kk.mono ?_; rintro e w7 ⟨rfl, hb7⟩; have hB7 := hd.trans (hb7.mono hd.size))
   refine hK.out _ _ ⟨keep_cell r0 hB7 ltr, keep_cell r1 hB7 ltr, keep_cell r2 hB7 ltr, keep_cell r3 hB7 ltr, keep_cell r4 hB7 ltr, keep_cell i0 hB7 lti, keep_cell x0 hB7 ltx, keep_cell x1 hB7 ltx, keep_cell x2 hB7 ltx, keep_cell x3 hB7 ltx, keep_cell x4 hB7 ltx, keep_cell x5 hB7 ltx, keep_cell y0 hB7 hBl, keep_cell y1 hB7 hBl, keep_cell y2 hB7 hBl, keep_cell y3 hB7 hBl, keep_cell y4 hB7 hBl, keep_cell y5 hB7 hBl⟩ (fun hHeld => ?_)
   clear hK K
   (try simp only [Act.put, List.setIfInBounds_toArray, List.set_cons_zero, List.set_cons_succ])
   refine hT (i := 5) (v := ?_) rfl rfl hHeld ?_ ?_
   rotate_left
   ·intro wh hz; iterate 17 obtain ⟨_, hz⟩ := hz
    go_simp
    (try with_reducible rfl)
   simp only [Act.put, List.setIfInBounds_toArray, List.set_cons_zero, List.set_cons_succ]
   refine hT (i := 6) (v := ?_) rfl rfl hHeld ?_ ?_
   rotate_left
   ·intro wh hz; iterate 17 obtain ⟨_, hz⟩ := hz
    go_simp
    (try with_reducible rfl)
   simp only [Act.put, List.setIfInBounds_toArray, List.set_cons_zero, List.set_cons_succ]
   refine hT (i := 7) (v := ?_) rfl rfl hHeld ?_ ?_
   rotate_left
   ·intro wh hz; iterate 17 obtain ⟨_, hz⟩ := hz
    go_simp
    (try with_reducible rfl)
   simp only [Act.put, List.setIfInBounds_toArray, List.set_cons_zero, List.set_cons_succ]
   refine hT (i := 8) (v := ?_) rfl rfl hHeld ?_ ?_
   rotate_left
   ·intro wh hz; iterate 17 obtain ⟨_, hz⟩ := hz
    go_simp
    (try with_reducible rfl)
   simp only [Act.put, List.setIfInBounds_toArray, List.set_cons_zero, List.set_cons_succ]
   refine hT (i := 9) (v := ?_) rfl rfl hHeld ?_ ?_
   rotate_left
   ·intro wh hz; iterate 17 obtain ⟨_, hz⟩ := hz
    go_simp
    (try with_reducible rfl)
   simp only [Act.put, List.setIfInBounds_toArray, List.set_cons_zero, List.set_cons_succ]
   refine hT (i := 10) (v := ?_) rfl rfl hHeld ?_ ?_
   rotate_left
   ·intro wh hz; iterate 17 obtain ⟨_, hz⟩ := hz
    go_simp
    (try with_reducible rfl)
   simp only [Act.put, List.setIfInBounds_toArray, List.set_cons_zero, List.set_cons_succ]
   refine hT (i := 11) (v := ?_) rfl rfl hHeld ?_ ?_
   rotate_left
   ·intro wh hz; iterate 17 obtain ⟨_, hz⟩ := hz
    go_simp
    (try with_reducible rfl)
   simp only [Act.put, List.setIfInBounds_toArray, List.set_cons_zero, List.set_cons_succ]
   refine held_call (i := 12) rfl (by kernel_rfl) (by rfl) (fun K hK => ?_)
   (go_simp; go_at_call 64; refine (KAK.out _ hB7).mono ?_; rintro e w8 ⟨rfl, hb8⟩; have hB8 := hB7.trans (hb8.mono hB7.size))
   refine hK.out _ _ ⟨keep_cell r0 hB8 ltr, keep_cell r1 hB8 ltr, keep_cell r2 hB8 ltr, keep_cell r3 hB8 ltr, keep_cell r4 hB8 ltr, keep_cell i0 hB8 lti, keep_cell x0 hB8 ltx, keep_cell x1 hB8 ltx, keep_cell x2 hB8 ltx, keep_cell x3 hB8 ltx, keep_cell x4 hB8 ltx, keep_cell x5 hB8 ltx, keep_cell y0 hB8 hBl, keep_cell y1 hB8 hBl, keep_cell y2 hB8 hBl, keep_cell y3 hB8 hBl, keep_cell y4 hB8 hBl, keep_cell y5 hB8 hBl⟩ (fun hHeld => ?_)
   clear hK K
   (try simp only [Act.put, List.setIfInBounds_toArray, List.set_cons_zero, List.set_cons_succ])
   refine hT (i := 13) (v := ?_) rfl rfl hHeld ?_ ?_
   rotate_left
   ·intro wh hz; iterate 17 obtain ⟨_, hz⟩ := hz
    go_simp
    (try with_reducible rfl)
   simp only [Act.put, List.setIfInBounds_toArray, List.set_cons_zero, List.set_cons_succ]
   refine hT (i := 14) (v := ?_) rfl rfl hHeld ?_ ?_
   rotate_left
   ·intro wh hz; iterate 17 obtain ⟨_, hz⟩ := hz
    go_simp
    (try with_reducible rfl)
   simp only [Act.put, List.setIfInBounds_toArray, List.set_cons_zero, List.set_cons_succ]
   refine hT (i := 15) (v := ?_) rfl rfl hHeld ?_ ?_
   rotate_left
   ·intro wh hz; iterate 17 obtain ⟨_, hz⟩ := hz
    go_simp
    (try with_reducible rfl)
   simp only [Act.put, List.setIfInBounds_toArray, List.set_cons_zero, List.set_cons_succ]
   refine hT (i := 17) (v := ?_) rfl rfl hHeld ?_ ?_
   rotate_left
   ·intro wh hz; iterate 17 obtain ⟨_, hz⟩ := hz
    go_simp
    (try with_reducible rfl)
   simp only [Act.put, List.setIfInBounds_toArray, List.set_cons_zero, List.set_cons_succ]
   refine held_call (i := 16) rfl (by kernel_rfl) (by rfl) (fun K hK => ?_)
   (go_simp; go_at_call 28; refine (KID.out _ hB8).mono ?_; rintro e w9 ⟨rfl, hb9⟩; have hB9 := hB8.trans (hb9.mono hB8.size))
   refine hK.out _ _ ⟨keep_cell r0 hB9 ltr, keep_cell r1 hB9 ltr, keep_cell r2 hB9 ltr, keep_cell r3 hB9 ltr, keep_cell r4 hB9 ltr, keep_cell i0 hB9 lti, keep_cell x0 hB9 ltx, keep_cell x1 hB9 ltx, keep_cell x2 hB9 ltx, keep_cell x3 hB9 ltx, keep_cell x4 hB9 ltx, keep_cell x5 hB9 ltx, keep_cell y0 hB9 hBl, keep_cell y1 hB9 hBl, keep_cell y2 hB9 hBl, keep_cell y3 hB9 hBl, keep_cell y4 hB9 hBl, keep_cell y5 hB9 hBl⟩ (fun hHeld => ?_)
   clear hK K
   (try simp only [Act.put, List.setIfInBounds_toArray, List.set_cons_zero, List.set_cons_succ])
   refine hT (i := 18) (v := ?_) rfl rfl hHeld ?_ ?_
   rotate_left
   ·intro wh hz; iterate 17 obtain ⟨_, hz⟩ := hz
    go_simp
    (try with_reducible rfl)
   simp only [Act.put, List.setIfInBounds_toArray, List.set_cons_zero, List.set_cons_succ]
   refine hT (i := 19) (v := ?_) rfl rfl hHeld ?_ ?_
   rotate_left
   ·intro wh hz; iterate 17 obtain ⟨_, hz⟩ := hz
    go_simp
    (try with_reducible rfl)
   simp only [Act.put, List.setIfInBounds_toArray, List.set_cons_zero, List.set_cons_succ]
   refine wpAnyH_done (by kernel_rfl) ?_ _
   have HB9 := Lib.hid hB9
   have G9 := GG7.out.kept (below_grown hB9 none) (by simp)
   clear hB9 c4 f4
   have c4 := G9.cell
   have f4 := G9.frozen
   generalize (sid != id) = q at *
   cases q
   ·gi_wp2
    exact KEEP.out _ _ HB9.out HF.out rfl
   ·gi_wp2
    obtain ⟨la1, _, la2⟩ := LEAVE.out _ HB9.out HF.out
    exact ⟨la1, rfl, la2⟩
  case done =>
   rintro D xs W hD hS ⟨hB, hno⟩ hK
   have G7 := G6.kept (below_grown hB none) (by simp)
   have c4 := G7.cell
   have f4 := G7.frozen
   have hBw := hB6.trans (hB.mono hB6.size)
   have HF : Hid (R = false) := Lib.hid (by
    rw [HBY.out, HWH.out, Bool.true_and, ← hS, List.any_map, List.any_eq_false]
    intro y hy
    rw [Function.comp, hno y hy]; decide)
   gi_wp2
   have hK' := (KeepsOthers.setCell W ⟨w.heap.size + 1 + 1 + 1, 0, none⟩ (.bool false)).same D _ hK rfl
   refine ⟨by simp, .inl ⟨_, _, rfl, run_takeDeferred hK', ?_⟩⟩
   have hc5 := cell_kept (G7.set (.bool false)).cell (grownBy_putObj' _ D (.deferred none)) (fun r e => by cases e; exact ⟨_, hK', rfl⟩)
   refine ⟨.bool false, ?_, by rw [HF.out], (hBw.setCell (p := ⟨w.heap.size + 1 + 1 + 1, 0, none⟩) (by show w.heap.size ≤ w.heap.size + 1 + 1 + 1; omega) _).trans (belowK_b (w := w) (Nat.le_refl _) _ D _ _ (by omega) hK' rfl rfl)⟩
   simp [results, Tryz.f30, go_sem, hc5]
  case stop =>
   rintro D c pre W hD hS ⟨rfl, ⟨y, hy, hyg⟩, hc, hB⟩ hK
   have HF : Hid (R = true) := Lib.hid (by
    rw [HBY.out, HWH.out, Bool.true_and, List.any_eq_true]
    exact ⟨y.1, hS.subset (List.mem_map_of_mem hy), hyg⟩)
   gi_wp2
   refine ⟨by simp, .inl ⟨_, _, rfl, run_takeDeferred hK, ?_⟩⟩
   have hc5 := cell_kept hc (grownBy_putObj' _ D (.deferred none)) (fun r e => by cases e; exact ⟨_, hK, rfl⟩)
   refine ⟨.bool true, ?_, by rw [HF.out], hB.trans (belowK_b (w := w) (Nat.le_refl _) W D _ _ (by omega) hK rfl rfl)⟩
   simp [results, Tryz.f30, go_sem, hc5]
end Go.Proofs.YtipnhpfpppblhaaGreat
/- A map of the strings that were seen: made by the call, written in a loop, looked up. No program in sight. -/
namespace Go.Proofs.YtipnhpfpppblhaaGreat
open Go.RowKit Go.Maps
def keyS (x : ByteArray) : Lit := .string x.data.toList
theorem keyS_isKey (x : ByteArray) : WideAt.IsKeyLit (keyS x) := by simp [WideAt.IsKeyLit, keyS]
def seenD (xs : List ByteArray) : DataW Unit := setOf (.lit (.bool true)) (xs.map keyS)
theorem seenD_snoc (xs : List ByteArray) (x : ByteArray) : seenD (xs ++ [x]) = (seenD xs).put (keyS x) (.lit (.bool true)) := by
 rw [seenD, List.map_append, List.map_singleton, setOf_snoc]; rfl
theorem keyS_inj {x y : ByteArray} (h : keyS x = keyS y) : x = y := by
 simp only [keyS, Lit.string.injEq] at h
 exact ByteArray.ext (Array.toList_inj.1 h)
theorem seenD_isMap (xs : List ByteArray) : IsMap (seenD xs) := (tidy_setOf _ _ (fun x hx => by obtain ⟨y, _, rfl⟩ := List.mem_map.1 hx; exact keyS_isKey y)).isMap
def seenB (xs : List ByteArray) (x : ByteArray) : Bool := xs.any fun y => decide (y = x)
theorem seenD_at (xs : List ByteArray) (x : ByteArray) : (seenD xs).atKey (keyS x) (.lit (.bool false)) = .lit (.bool (seenB xs x)) := by
 induction xs using snocInd with
 | h0 => rfl
 | h1 l y ih =>
  rw [seenD_snoc]
  by_cases h : x = y
  ·subst h
   rw [atKey_put_same (seenD_isMap l) (keyS_isKey x)]
   simp [seenB]
  ·rw [atKey_put_other (fun e => h (keyS_inj e)), ih]
   simp [seenB, Ne.symm h]
theorem plainElem_bool_inv {H : Type} {P : Program} {e : TypeId} (he : P.underlying e = some .bool) {v : Value} {z : DataW H × List MemPlace} (h : plainElem P e v = some z) : ∃ x, v = .bool x ∧ z = (.lit (.bool x), []) := by
 unfold plainElem at h
 rw [he] at h
 cases v <;> simp at h
 subst h
 exact ⟨_, rfl, rfl⟩
theorem seen_lookup {P : Program} {t k e : TypeId} {w : World} {b n : Nat} {xs : List ByteArray} (h : w.ownsMap P k (plainElem P e) b n (seenD xs)) (ht : P.underlying t = some (.map k e)) (hk : P.underlying k = some .string)
  (he : P.underlying e = some .bool) (hz : (zeroValue e).run P w = .ok (.bool false) w) (x : ByteArray) (hx : x.size ≤ maxLen) :
  (Instr.lookup t (.map (some b)) (.string x) false).run P w = .ok (.bool (seenB xs x)) w := by
 obtain ⟨v, ps, hrun, hv⟩ := h.lookup (string_keyed hk) ht hz (plainElem_bool he false) (kl := keyS x) (WideMaps.keyOf_string_mk hk hx)
 obtain ⟨c, rfl, hc⟩ := plainElem_bool_inv he hv
 rw [seenD_at] at hc
 simp only [Prod.mk.injEq, DataW.lit.injEq, Lit.bool.injEq] at hc
 rw [hrun, hc.1]
end Go.Proofs.YtipnhpfpppblhaaGreat
/- policy.named, by: contracts. -/
namespace Go.Proofs.YtipnhpfpppblhaaGreat
open Go.RowKit Go.Maps
theorem seen_take {α : Type} (nm : α → ByteArray) (l : List α) (k : Nat) (x : ByteArray) : seenB ((l.map nm).take k) x = true ↔ ∃ (j : Nat) (hj : j < l.length), j < k ∧ nm l[j] = x := by
 unfold seenB
 rw [List.any_eq_true]
 constructor
 ·rintro ⟨y, hy, h⟩
  obtain ⟨j, hj, rfl⟩ := List.mem_iff_getElem.1 hy
  rw [List.length_take, List.length_map] at hj
  refine ⟨j, by omega, by omega, ?_⟩
  have := of_decide_eq_true h
  rwa [List.getElem_take, List.getElem_map] at this
 ·rintro ⟨j, hj, hjk, rfl⟩
  refine ⟨nm l[j], ?_, decide_eq_true rfl⟩
  exact List.mem_iff_getElem.2 ⟨j, by rw [List.length_take, List.length_map]; omega, by rw [List.getElem_take, List.getElem_map]⟩
set_option maxHeartbeats 1600000 in
set_option maxRecDepth 100000 in
theorem pnamed_any (l : List Nmd) (v : Value) (w : World) (hv : NmdsAt w v l) (hw : NmdWide l) :
  Calls Tryz.prog 50 #[v] w fun e w' => e = .returned (.bool (namedP l)) ∧ Below w.heap.size w w' := by
 obtain ⟨hl, _, hsz⟩ := hw
 have HE : Hid (namedP l = okAll (fun x : Nmd => x.1) (fun x : Nmd => nameL (B x.1) && rightL x.2.1) l) := Lib.hid (namedP_eq l)
 obtain ⟨a, c, rfl, hc, hr⟩ := RdAt.shape hv
 have HR := Lib.hid hr
 have HSZ := Lib.hid hsz
 have hl47 : l.length ≤ maxLen := hl
 unfold maxLen at hl47
 have hmm := @run_makeMap Tryz.prog
 clear hr hv hl hsz
 go_enter Tryz.func50, Tryz.ntmps50
 go_wp2
 go_loopw [9] (fun i wr => ∃ k : Nat, i = .int .i64 k ∧ k ≤ l.length ∧ Hid (okUp (fun x : Nmd => x.1) (fun x : Nmd => nameL (B x.1) && rightL x.2.1) l k) ∧ Hid (wr.ownsMap Tryz.prog 9 (plainElem Tryz.prog 4) w.heap.size k (seenD ((l.map (fun x : Nmd => x.1)).take k))) ∧ Hid (Below w.heap.size w wr)) (fun i _ => l.length - (intOf i).toNat)
 case atStart => exact ⟨0, rfl, Nat.zero_le _, Lib.hid okUp_zero, Lib.hid (World.ownsMap_made _ _ _ _), Lib.hid (alloc_below _ _)⟩
 case round =>
  obtain ⟨k, rfl, hk, HT, HOWN, HBR⟩ := hrel
  by_cases hkl : k < l.length
  ·obtain ⟨b, o, rfl, hb, hcell⟩ := HR.out (by omega)
   have hstep := okUp_succ HT.out hkl
   have hbad := okAll_bad (nm := (fun x : Nmd => x.1)) (p := (fun x : Nmd => nameL (B x.1) && rightL x.2.1)) hkl
   have htw := fun j hj hjk => okAll_twice (nm := (fun x : Nmd => x.1)) (p := (fun x : Nmd => nameL (B x.1) && rightL x.2.1)) (j := j) hj hkl hjk
   have hxs := HSZ.out _ (List.getElem_mem hkl)
   have htk : (l.map (fun x : Nmd => x.1)).take (k + 1) = (l.map (fun x : Nmd => x.1)).take k ++ [(fun x : Nmd => x.1) l[k]] := by rw [List.take_succ_eq_append_getElem (by simpa using hkl), List.getElem_map]
   have HC := nmdCells_at l k hkl
   obtain ⟨x, hx⟩ : ∃ x, l[k] = x := ⟨_, rfl⟩
   rw [hx] at HC hstep hbad hxs htk
   simp only [hx] at htw
   have q : ∀ i v, (nmdC x)[i]? = some v → wr.cell? ⟨b, o + k * 3 + i, none⟩ = some v := fun i v hi => keep_cell (by have := hcell _ _ (HC i v hi); rwa [← Nat.add_assoc] at this) HBR.out hb
   obtain ⟨nx, lx, cx⟩ := x
   dsimp only at *
   have q0 : wr.cell? ⟨b, o + k * 3, none⟩ = some (.string nx) := q 0 _ rfl
   have q1 : wr.cell? ⟨b, o + k * 3 + 1, none⟩ = some (.int .i64 lx) := q 1 _ rfl
   have q2 : wr.cell? ⟨b, o + k * 3 + 2, none⟩ = some (.int .u32 cx) := q 2 _ rfl
   clear q HC
   have HBAD : Hid ((nameL (B nx) && rightL lx) = false → namedP l = false) := Lib.hid (fun h => by rw [HE.out, hbad h])
   have HTW : Hid (seenB ((l.map (fun x : Nmd => x.1)).take k) nx = true → namedP l = false) := Lib.hid (fun h => by
    obtain ⟨j, hj, hjk, he⟩ := (seen_take (fun x : Nmd => x.1) l k nx).1 h
    rw [HE.out, htw j hj hjk he])
   have HNS : Hid (seenB ((l.map (fun x : Nmd => x.1)).take k) nx = false → ∀ j (hj : j < l.length), j < k → (fun x : Nmd => x.1) l[j] ≠ nx) := Lib.hid (fun h j hj hjk he => by
    have := (seen_take (fun x : Nmd => x.1) l k nx).2 ⟨j, hj, hjk, he⟩
    rw [h] at this; cases this)
   have HST := Lib.hid hstep
   have HSN : Hid (seenD ((l.map (fun x : Nmd => x.1)).take (k + 1)) = (seenD ((l.map (fun x : Nmd => x.1)).take k)).put (keyS nx) (.lit (.bool true))) := Lib.hid (by rw [htk, seenD_snoc])
   have HXS := Lib.hid hxs
   have hkey : keyOf Tryz.prog 9 (.string nx) = some (keyS nx) := WideMaps.keyOf_string_mk Tryz.underlying9 hxs
   have HKEY := Lib.hid hkey
   have HLK : Hid (∀ W, Below wr.heap.size wr W → (Instr.lookup 124 (.map (some w.heap.size)) (.string nx) false).run Tryz.prog W = .ok (.bool (seenB ((l.map (fun x : Nmd => x.1)).take k) nx)) W) := Lib.hid (fun W h =>
    seen_lookup (HOWN.out.kept (below_grown h none) (by simp)) Tryz.underlying124 Tryz.underlying9 Tryz.underlying4 (Tryz.zeroValue4 _) nx hxs)
   clear hcell hstep hbad htw hx hxs htk hkey
   go_upto_region 5 with fail
   change Code.wp _ _ _ _ (wr.alloc (.cells #[.string nx, .int .i64 lx, .int .u32 cx] 120))
   have hba := alloc_below wr (.cells #[.string nx, .int .i64 lx, .int .u32 cx] 120)
   have hca : ∀ (i : Nat), (wr.alloc (.cells #[.string nx, .int .i64 lx, .int .u32 cx] 120)).cell? ⟨wr.heap.size, i, none⟩ = _ := fun i => World.cell?_alloc_at _ _ _ _ rfl
   have r0 := hca 0
   have r1 := hca 1
   have r2 := hca 2
   have hsa := World.size_alloc wr (.cells #[.string nx, .int .i64 lx, .int .u32 cx] 120)
   clear hca
   generalize wr.alloc (.cells #[.string nx, .int .i64 lx, .int .u32 cx] 120) = wa at *
   have HBA := Lib.hid hba
   have hgx : wr.heap.size < wa.heap.size := by omega
   have HGX := Lib.hid hgx
   have r0' : wa.cell? ⟨wr.heap.size, 0, none⟩ = some (.string nx) := r0
   have r1' : wa.cell? ⟨wr.heap.size, 1, none⟩ = some (.int .i64 lx) := r1
   have r2' : wa.cell? ⟨wr.heap.size, 2, none⟩ = some (.int .u32 cx) := r2
   have lk := HLK.out _ hba
   clear hba hsa q0 q1 q2 r0 r1 r2 hgx
   have HR0 := Lib.hid (And.intro r0' (And.intro r1' r2'))
   cases hsn : seenB ((l.map (fun x : Nmd => x.1)).take k) nx
   ·rw [hsn] at lk
    have HN1 := Lib.hid (HNS.out hsn)
    clear hsn HLK HTW HNS
    have kn := name_any nx wa HXS.out
    cases hnm : nameL (B nx)
    ·rw [hnm] at kn
     have HF := Lib.hid (HBAD.out (by rw [hnm]; rfl))
     clear hnm
     go_wp2_with fail
     refine kn.mono ?_
     rintro e w2 ⟨rfl, hb2⟩
     have HB2 := Lib.hid (HBR.out.trans ((HBA.out.trans (hb2.mono HBA.out.size)).mono HBR.out.size))
     clear hb2 kn lk r0' r1' r2'
     go_wp2
     go_ret
     exact ⟨by rw [HF.out]; rfl, HB2.out⟩
    ·rw [hnm] at kn
     go_wp2_with fail
     refine kn.mono ?_
     rintro e w2 ⟨rfl, hb2⟩
     have HA2 := Lib.hid (HBA.out.trans (hb2.mono HBA.out.size))
     have s0 := keep_cell r0' hb2 HGX.out
     have s1 := keep_cell r1' hb2 HGX.out
     have s2 := keep_cell r2' hb2 HGX.out
     have HG2 := Lib.hid (Nat.lt_of_lt_of_le HGX.out hb2.size)
     clear hb2 kn lk r0' r1' r2' HR0
     have kr := right_any lx cx w2
     cases hrl : rightL lx
     ·rw [hrl] at kr
      have HF := Lib.hid (HBAD.out (by rw [hnm, hrl]; rfl))
      clear hnm hrl
      go_wp2_with fail
      refine kr.mono ?_
      rintro e w3 ⟨rfl, hb3⟩
      have HB3 := Lib.hid (HBR.out.trans ((HA2.out.trans (hb3.mono HA2.out.size)).mono HBR.out.size))
      clear hb3 kr s0 s1 s2
      go_wp2
      go_ret
      exact ⟨by rw [HF.out]; rfl, HB3.out⟩
     ·rw [hrl] at kr
      have HOK := Lib.hid (HST.out (fun j hj h => HN1.out j hj h) (by rw [hnm, hrl]; rfl))
      clear hnm hrl
      go_wp2_with fail
      refine kr.mono ?_
      rintro e w3 ⟨rfl, hb3⟩
      have HA3 := Lib.hid (HA2.out.trans (hb3.mono HA2.out.size))
      have u0 := keep_cell s0 hb3 HG2.out
      have u1 := keep_cell s1 hb3 HG2.out
      have u2 := keep_cell s2 hb3 HG2.out
      clear hb3 kr s0 s1 s2
      have hown3 := HOWN.out.kept (below_grown HA3.out none) (by simp)
      have hkey := HKEY.out
      go_wp2_with (first
       | (at_mapUpdate; refine wpList_mapUpdate_own _ rfl _ _ _ 124 rfl 9 4 (string_keyed Tryz.underlying9) Tryz.underlying124 (plainElem Tryz.prog 4) w.heap.size k _ rfl hown3 (by unfold maxLen; omega) _ _ (keyS nx) rfl rfl hkey _ [] (plainElem_bool Tryz.underlying4 true) ?_; intro w4 hown4 hg4))
      have HO4 := Lib.hid (by have h := hown4; rw [← HSN.out] at h; exact h)
      have HB4 := Lib.hid ((HBR.out.trans (HA3.out.mono HBR.out.size)).grown hg4 (HBR.out.trans (HA3.out.mono HBR.out.size)).size (fun j e => by cases e; exact Nat.le_refl _))
      clear hown3 hown4 hg4 hkey u0 u1 u2
      go_wp2
      go_roundw
      case rel => exact ⟨k + 1, by go_num, by omega, HOK, HO4, HB4⟩
      case measure => (simp [intOf]; try omega)
   ·rw [hsn] at lk
    have HF := Lib.hid (HTW.out hsn)
    clear hsn HLK HNS
    have HB2 := Lib.hid (HBR.out.trans (HBA.out.mono HBR.out.size))
    go_wp2
    go_ret
    exact ⟨by rw [HF.out]; rfl, HB2.out⟩
  ·obtain rfl : k = l.length := by omega
   have HF : Hid (namedP l = true) := Lib.hid (by rw [HE.out]; exact okUp_all HT.out)
   clear HT
   go_wp2
   go_ret
   exact ⟨by rw [HF.out]; rfl, HBR.out⟩
set_option maxHeartbeats 1600000 in
set_option maxRecDepth 100000 in
theorem pby_any (l : List ByteArray) (v : Value) (w : World) (hv : StrsG w v l) (hw : StrsFit l) :
  Calls Tryz.prog 54 #[v] w fun e w' => e = .returned (.bool (byP l)) ∧ Below w.heap.size w w' := by
 obtain ⟨hl, hsz⟩ := hw
 have HE : Hid (byP l = (okAll (fun x : ByteArray => x) (fun x : ByteArray => nameL (B x)) l && decide (l.length ≤ 8))) := Lib.hid (byP_eq l)
 obtain ⟨a, c, rfl, hc, hr⟩ := RdAt.shape hv
 have HR := Lib.hid hr
 have HSZ := Lib.hid hsz
 have hl47 : l.length ≤ maxLen := hl
 unfold maxLen at hl47
 have hmm := @run_makeMap Tryz.prog
 clear hr hv hl hsz
 go_enter Tryz.func54, Tryz.ntmps54
 go_wp2
 go_loopw [9] (fun i wr => ∃ k : Nat, i = .int .i64 k ∧ k ≤ l.length ∧ Hid (okUp (fun x : ByteArray => x) (fun x : ByteArray => nameL (B x)) l k) ∧ Hid (wr.ownsMap Tryz.prog 9 (plainElem Tryz.prog 4) w.heap.size k (seenD ((l.map (fun x : ByteArray => x)).take k))) ∧ Hid (Below w.heap.size w wr)) (fun i _ => l.length - (intOf i).toNat)
 case atStart => exact ⟨0, rfl, Nat.zero_le _, Lib.hid okUp_zero, Lib.hid (World.ownsMap_made _ _ _ _), Lib.hid (alloc_below _ _)⟩
 case round =>
  obtain ⟨k, rfl, hk, HT, HOWN, HBR⟩ := hrel
  by_cases hkl : k < l.length
  ·obtain ⟨b, o, rfl, hb, hcell⟩ := HR.out (by omega)
   have hstep := okUp_succ HT.out hkl
   have hbad := okAll_bad (nm := (fun x : ByteArray => x)) (p := (fun x : ByteArray => nameL (B x))) hkl
   have htw := fun j hj hjk => okAll_twice (nm := (fun x : ByteArray => x)) (p := (fun x : ByteArray => nameL (B x))) (j := j) hj hkl hjk
   have hxs := HSZ.out _ (List.getElem_mem hkl)
   have htk : (l.map (fun x : ByteArray => x)).take (k + 1) = (l.map (fun x : ByteArray => x)).take k ++ [(fun x : ByteArray => x) l[k]] := by rw [List.take_succ_eq_append_getElem (by simpa using hkl), List.getElem_map]
   obtain ⟨nx, hx⟩ : ∃ x, l[k] = x := ⟨_, rfl⟩
   have q0 : wr.cell? ⟨b, o + k, none⟩ = some (.string nx) := keep_cell (hcell _ _ (by rw [List.getElem?_map, List.getElem?_eq_getElem hkl, hx]; rfl)) HBR.out hb
   rw [hx] at hstep hbad hxs htk
   simp only [hx] at htw
   have HBAD : Hid (nameL (B nx) = false → byP l = false) := Lib.hid (fun h => by rw [HE.out, hbad h]; rfl)
   have HTW : Hid (seenB ((l.map (fun x : ByteArray => x)).take k) nx = true → byP l = false) := Lib.hid (fun h => by
    obtain ⟨j, hj, hjk, he⟩ := (seen_take (fun x : ByteArray => x) l k nx).1 h
    rw [HE.out, htw j hj hjk he]; rfl)
   have HNS : Hid (seenB ((l.map (fun x : ByteArray => x)).take k) nx = false → ∀ j (hj : j < l.length), j < k → (fun x : ByteArray => x) l[j] ≠ nx) := Lib.hid (fun h j hj hjk he => by
    have := (seen_take (fun x : ByteArray => x) l k nx).2 ⟨j, hj, hjk, he⟩
    rw [h] at this; cases this)
   have HST := Lib.hid hstep
   have HSN : Hid (seenD ((l.map (fun x : ByteArray => x)).take (k + 1)) = (seenD ((l.map (fun x : ByteArray => x)).take k)).put (keyS nx) (.lit (.bool true))) := Lib.hid (by rw [htk, seenD_snoc])
   have HXS := Lib.hid hxs
   have hkey : keyOf Tryz.prog 9 (.string nx) = some (keyS nx) := WideMaps.keyOf_string_mk Tryz.underlying9 hxs
   have HKEY := Lib.hid hkey
   have HLK : Hid (∀ W, Below wr.heap.size wr W → (Instr.lookup 124 (.map (some w.heap.size)) (.string nx) false).run Tryz.prog W = .ok (.bool (seenB ((l.map (fun x : ByteArray => x)).take k) nx)) W) := Lib.hid (fun W h =>
    seen_lookup (HOWN.out.kept (below_grown h none) (by simp)) Tryz.underlying124 Tryz.underlying9 Tryz.underlying4 (Tryz.zeroValue4 _) nx hxs)
   clear hcell hstep hbad htw hx hxs htk hkey
   have lk := HLK.out _ (Below.refl _ _)
   obtain ⟨wa, rfl⟩ : ∃ z, z = wr := ⟨_, rfl⟩
   have HBA : Hid (Below wa.heap.size wa wa) := Lib.hid (Below.refl _ _)
   cases hsn : seenB ((l.map (fun x : ByteArray => x)).take k) nx
   ·rw [hsn] at lk
    have HN1 := Lib.hid (HNS.out hsn)
    clear hsn HLK HTW HNS
    have kn := name_any nx wa HXS.out
    cases hnm : nameL (B nx)
    ·rw [hnm] at kn
     have HF := Lib.hid (HBAD.out (by exact hnm))
     clear hnm
     go_wp2_with fail
     refine kn.mono ?_
     rintro e w2 ⟨rfl, hb2⟩
     have HB2 := Lib.hid (HBR.out.trans ((HBA.out.trans (hb2.mono HBA.out.size)).mono HBR.out.size))
     clear hb2 kn lk 
     go_wp2
     go_ret
     exact ⟨by rw [HF.out]; rfl, HB2.out⟩
    ·rw [hnm] at kn
     have HOK := Lib.hid (HST.out (fun j hj h => HN1.out j hj h) hnm)
     clear hnm
     go_wp2_with fail
     refine kn.mono ?_
     rintro e w3 ⟨rfl, hb3⟩
     have HA3 := Lib.hid hb3
     clear hb3 kn lk
     have hown3 := HOWN.out.kept (below_grown HA3.out none) (by simp)
     have hkey := HKEY.out
     go_wp2_with (first
      | (at_mapUpdate; refine wpList_mapUpdate_own _ rfl _ _ _ 124 rfl 9 4 (string_keyed Tryz.underlying9) Tryz.underlying124 (plainElem Tryz.prog 4) w.heap.size k _ rfl hown3 (by unfold maxLen; omega) _ _ (keyS nx) rfl rfl hkey _ [] (plainElem_bool Tryz.underlying4 true) ?_; intro w4 hown4 hg4))
     have HO4 := Lib.hid (by have h := hown4; rw [← HSN.out] at h; exact h)
     have HB4 := Lib.hid ((HBR.out.trans (HA3.out.mono HBR.out.size)).grown hg4 (HBR.out.trans (HA3.out.mono HBR.out.size)).size (fun j e => by cases e; exact Nat.le_refl _))
     clear hown3 hown4 hg4 hkey
     go_wp2
     go_roundw
     case rel => exact ⟨k + 1, by go_num, by omega, HOK, HO4, HB4⟩
     case measure => (simp [intOf]; try omega)
   ·rw [hsn] at lk
    have HF := Lib.hid (HTW.out hsn)
    clear hsn HLK HNS
    have HB2 := Lib.hid (HBR.out.trans (HBA.out.mono HBR.out.size))
    go_wp2
    go_ret
    exact ⟨by rw [HF.out]; rfl, HB2.out⟩
  ·obtain rfl : k = l.length := by omega
   have HF : Hid (byP l = decide (l.length ≤ 8)) := Lib.hid (by rw [HE.out, show okAll (fun x : ByteArray => x) (fun x : ByteArray => nameL (B x)) l = true from okUp_all HT.out]; rfl)
   clear HT
   by_cases h8 : l.length ≤ 8
   ·have hi8 : (l.length : Int) ≤ 8 := by omega
    go_wp2
    go_ret
    exact ⟨by rw [HF.out, decide_eq_true h8]; rfl, HBR.out⟩
   ·have hi8 : ¬ (l.length : Int) ≤ 8 := by omega
    go_wp2
    go_ret
    exact ⟨by rw [HF.out, decide_eq_false h8]; rfl, HBR.out⟩
end Go.Proofs.YtipnhpfpppblhaaGreat
/- policy.when, between, Check: contracts. -/
namespace Go.Proofs.YtipnhpfpppblhaaGreat
open Go.RowKit Go.Maps
def lowN (x : Nat) : Bool := decide ((x : Int) < 32)
theorem low_any (x : Nat) (w : World) :
  Calls Tryz.prog 83 #[.int .i32 x] w fun e w' => e = .returned (.bool (lowN x)) ∧ ∃ q, w' = w.drewN q := by
 have H : Hid (lowN x = decide ((x : Int) < 32)) := rfl
 by_cases h : (x : Int) < 32
 ·go_enter Tryz.func83, Tryz.ntmps83
  go_wp2
  go_ret
  exact ⟨by rw [H.out, decide_eq_true h]; rfl, 0, rfl⟩
 ·go_enter Tryz.func83, Tryz.ntmps83
  go_wp2
  go_ret
  exact ⟨by rw [H.out, decide_eq_false (show ¬ (x : Int) < 32 by omega)]; rfl, 0, rfl⟩
theorem low_plain (s : ByteArray) : ((B s).any fun c => lowN c.toNat) = !plainT s := by
 unfold plainT
 rw [List.not_all_eq_any_not]
 congr 1
 funext c
 unfold lowN
 by_cases h : c.toNat < 32
 ·rw [decide_eq_true (by omega), decide_eq_false (by omega)]; rfl
 ·rw [decide_eq_false (by omega), decide_eq_true (by omega)]; rfl
theorem has_low (s : ByteArray) (w : World) :
  Calls Tryz.prog 77 #[.string s, .func (.func 83) #[] #[]] w fun e w' => e = .returned (.bool (!plainT s)) ∧ Below w.heap.size w w' := by
 have h := Tryz.strings_ContainsFunc_runes 83 #[] (enters_of Tryz.func83 (by kernel_rfl) rfl) lowN s w (fun W x hx _ => low_any x W)
 rw [idxFunc_bytes lowN false (fun x hx => by unfold lowN; exact decide_eq_false (by omega)) s] at h
 rw [← low_plain]
 exact h
def oddM (m : Mt) : Bool := !(plainT m.val && fineM m)
set_option maxHeartbeats 800000 in
theorem whenc_any (m : Mt) (w : World) (hf : MtFit m) :
  Calls Tryz.prog 81 #[.agg #[.string m.nm, .int .i64 m.op, .string m.val]] w fun e w' => e = .returned (.bool (oddM m)) ∧ Below w.heap.size w w' := by
 have HE : Hid (oddM m = !(plainT m.val && fineM m)) := rfl
 have kf := fun W => mfine_any m W hf
 have ks := has_low m.val
 obtain ⟨nm, op, val⟩ := m
 dsimp only at kf ks HE
 have KF := Lib.hid kf
 have KS := Lib.hid ks
 obtain ⟨W0, hW0⟩ : ∃ z, w.alloc (.cells #[.string nm, .int .i64 op, .string val] 92) = z := ⟨_, rfl⟩
 have hd := (Below.refl W0.heap.size W0)
 rw [← hW0] at hd
 obtain ⟨⟨c0, c1, c2⟩, hlt, hB⟩ := box3m hd
 rw [hW0] at c0 c1 c2 hlt hB
 have HB := Lib.hid hB
 have HLT := Lib.hid hlt
 have HC := Lib.hid c2
 clear kf ks hd hlt hB
 go_enter Tryz.func81, Tryz.ntmps81
 go_upto_region 1 with fail
 clear hW0
 have kk := KF.out W0
 cases hfm : fineM ⟨nm, op, val⟩
 ·have HF : Hid (oddM ⟨nm, op, val⟩ = true) := Lib.hid (by rw [HE.out, hfm, Bool.and_false]; rfl)
  rw [hfm] at kk
  clear hfm
  go_wp2_with fail
  refine kk.mono ?_
  rintro e w1 ⟨rfl, hb1⟩
  have HB1 := Lib.hid (HB.out.trans (hb1.mono HB.out.size))
  clear hb1 kk c0 c1 c2 HC
  go_wp2
  go_ret
  exact ⟨by rw [HF.out]; rfl, HB1.out⟩
 ·have HF : Hid (oddM ⟨nm, op, val⟩ = !plainT val) := Lib.hid (by rw [HE.out, hfm, Bool.and_true])
  rw [hfm] at kk
  clear hfm
  go_wp2_with fail
  refine kk.mono ?_
  rintro e w1 ⟨rfl, hb1⟩
  have HB1 := Lib.hid (HB.out.trans (hb1.mono HB.out.size))
  have d2 := keep_cell HC.out hb1 HLT.out
  clear hb1 kk c0 c1 c2 HC
  generalize (!plainT val) = o at *
  go_wp2_with fail
  refine (KS.out w1).mono ?_
  rintro e w2 ⟨rfl, hb2⟩
  have HB2 := Lib.hid (HB1.out.trans (hb2.mono HB1.out.size))
  clear hb2 d2
  go_wp2
  go_ret
  exact ⟨by rw [HF.out]; rfl, HB2.out⟩
set_option maxHeartbeats 800000 in
theorem pwhen_any (l : List Mt) (v : Value) (w : World) (hv : MtsAt w v l) (hl : l.length ≤ maxLen) (hfit : MtsFit l) :
  Calls Tryz.prog 55 #[v] w fun e w' => e = .returned (.bool (whenP l)) ∧ Below w.heap.size w w' := by
 have hkey : whenP l = (decide (l.length ≤ 12) && !l.any oddM) := by
  unfold whenP
  rw [Bool.and_comm]
  congr 1
  rw [List.not_any_eq_all_not]
  congr 1
  funext m
  unfold oddM
  rw [Bool.not_not]
 have HE := Lib.hid hkey
 have kk := fun (h : l.length ≤ 12) => hasm_gen l hfit oddM 81 #[] (enters_of Tryz.func81 (by kernel_rfl) rfl) v w hv (by omega) (fun W m hm _ => whenc_any m W hm)
 obtain ⟨a, c, rfl, _, _⟩ := RdAt.shape hv
 have KK := Lib.hid kk
 unfold maxLen at hl
 clear hkey kk hv hfit
 by_cases h12 : l.length ≤ 12
 ·have hi : (l.length : Int) ≤ 12 := by omega
  have kk := KK.out h12
  have HF : Hid (whenP l = !l.any oddM) := Lib.hid (by rw [HE.out, decide_eq_true h12]; rfl)
  generalize l.any oddM = o at *
  clear KK HE
  go_enter Tryz.func55, Tryz.ntmps55
  go_wp2_with fail
  refine kk.mono ?_
  rintro e w1 ⟨rfl, hb1⟩
  clear kk
  go_wp2
  go_ret
  exact ⟨by rw [HF.out]; rfl, hb1⟩
 ·have hi : ¬ (l.length : Int) ≤ 12 := by omega
  have HF : Hid (whenP l = false) := Lib.hid (by rw [HE.out, decide_eq_false h12]; rfl)
  clear KK HE
  go_enter Tryz.func55, Tryz.ntmps55
  go_wp2
  go_ret
  exact ⟨by rw [HF.out]; rfl, Below.refl _ _⟩
theorem betw_any (n lo hi : Int) (b : Bool) (hb : (decide (lo ≤ n) && decide (n ≤ hi)) = b) (w : World) :
  Calls Tryz.prog 53 #[.int .i64 n, .int .i64 lo, .int .i64 hi] w fun e w' => e = .returned (.bool b) ∧ w = w' := by
 have H := Lib.hid hb
 clear hb
 rcases (show n < lo ∨ (lo ≤ n ∧ hi < n) ∨ (lo ≤ n ∧ n ≤ hi) by omega) with h | ⟨h, h'⟩ | ⟨h, h'⟩
 ·go_enter Tryz.func53, Tryz.ntmps53
  go_wp2
  go_ret
  exact ⟨by rw [← H.out, decide_eq_false (show ¬ lo ≤ n by omega)]; rfl, rfl⟩
 ·go_enter Tryz.func53, Tryz.ntmps53
  go_wp2
  go_ret
  exact ⟨by rw [← H.out, decide_eq_true (show lo ≤ n by omega), decide_eq_false (show ¬ n ≤ hi by omega)]; rfl, rfl⟩
 ·go_enter Tryz.func53, Tryz.ntmps53
  go_wp2
  go_ret
  exact ⟨by rw [← H.out, decide_eq_true (show lo ≤ n by omega), decide_eq_true (show n ≤ hi by omega)]; rfl, rfl⟩
theorem check1_any (l : List Nmd) (v : Value) (w : World) (hv : NmdsAt w v l) (hw : NmdWide l) :
  Calls Tryz.prog 49 #[v] w fun e w' => e = .returned (.bool (!namedP l)) ∧ Below w.heap.size w w' := by
 have kk := pnamed_any l v w hv hw
 obtain ⟨a, c, rfl, _, _⟩ := RdAt.shape hv
 generalize namedP l = o at *
 clear hv hw
 go_enter Tryz.func49, Tryz.ntmps49
 go_wp2_with fail
 refine kk.mono ?_
 rintro e w1 ⟨rfl, hb1⟩
 clear kk
 go_wp2
 go_ret
 exact ⟨rfl, hb1⟩
end Go.Proofs.YtipnhpfpppblhaaGreat
/- policy.Check: a contract. -/
namespace Go.Proofs.YtipnhpfpppblhaaGreat
open Go.RowKit Go.Maps
/-! ### an inhibit -/
set_option maxHeartbeats 1600000 in
set_option maxRecDepth 100000 in
theorem check3_any (x : PIh) (w : World) (hin : IhIn w x) (hf : IhFit x) :
  Calls Tryz.prog 56 #[.agg #[x.bv, .int .i64 x.lv, .int .u32 x.c, x.fv, x.wv]] w fun e w' => e = .returned (.bool (badIh x)) ∧ Below w.heap.size w w' := by
 have KBY := Lib.hid (fun W (h : Below w.heap.size w W) => pby_any x.bys x.bv W (RdAt.later hin.b h) hf.bys)
 have KW1 := Lib.hid (fun W (h : Below w.heap.size w W) => pwhen_any x.frm x.fv W (hin.f.later h) hf.lf hf.frm)
 have KW2 := Lib.hid (fun W (h : Below w.heap.size w W) => pwhen_any x.whn x.wv W (hin.m.later h) hf.lw hf.whn)
 have KRL := Lib.hid (right_any x.lv x.c)
 have HE : Hid (badIh x = (!byP x.bys || !rightL x.lv || !whenP x.frm || !whenP x.whn)) := rfl
 obtain ⟨bys, lv, c, frm, whn, bv, fv, wv⟩ := x
 dsimp only at *
 obtain ⟨ba, bc, hba, _, _⟩ := RdAt.shape hin.b
 dsimp only at hba
 subst hba
 obtain ⟨fa, fc, hfa, _, _⟩ := RdAt.shape hin.f
 dsimp only at hfa
 subst hfa
 obtain ⟨wa, wc, hwa, _, _⟩ := RdAt.shape hin.m
 dsimp only at hwa
 subst hwa
 clear hin hf
 generalize badIh _ = R at *
 obtain ⟨W0, hW0⟩ : ∃ z, w.alloc (.cells #[.slice ba bys.length bc, .int .i64 lv, .int .u32 c, .slice fa frm.length fc, .slice wa whn.length wc] 51) = z := ⟨_, rfl⟩
 have hB0 : Below w.heap.size w W0 := by rw [← hW0]; exact alloc_below _ _
 have hC : C5 w.heap.size (.slice ba bys.length bc) (.int .i64 lv) (.int .u32 c) (.slice fa frm.length fc) (.slice wa whn.length wc) W0 := by rw [← hW0]; exact box5n w _ _ _ _ _ _
 have hlt : w.heap.size < W0.heap.size := by rw [← hW0, World.size_alloc]; omega
 have HB0 := Lib.hid hB0
 have HC0 := Lib.hid hC
 have HL0 := Lib.hid hlt
 clear hB0 hC hlt
 go_enter Tryz.func56, Tryz.ntmps56
 go_upto_region 1 with fail
 clear hW0
 obtain ⟨r0, r1, r2, r3, r4⟩ := HC0.out
 have kk := KBY.out _ HB0.out
 cases hq1 : byP bys
 ·have HF : Hid (R = true) := Lib.hid (by rw [HE.out]; simp [hq1])
  rw [hq1] at kk
  clear hq1
  go_wp2_with fail
  refine kk.mono ?_
  rintro e w1 ⟨rfl, hb1⟩
  have HB := Lib.hid (HB0.out.trans (hb1.mono HB0.out.size))
  clear hb1 kk r0 r1 r2 r3 r4
  go_wp2
  go_ret
  exact ⟨by rw [HF.out]; rfl, HB.out⟩
 ·rw [hq1] at kk
  have HQ1 := Lib.hid hq1
  clear hq1
  go_wp2_with fail
  refine kk.mono ?_
  rintro e w1 ⟨rfl, hb1⟩
  have HB1 := Lib.hid (HB0.out.trans (hb1.mono HB0.out.size))
  have HC1 := Lib.hid (C5.later HC0.out hb1 HL0.out)
  have HL1 := Lib.hid (Nat.lt_of_lt_of_le HL0.out hb1.size)
  clear hb1 kk r0 r1 r2 r3 r4 HC0 HL0
  obtain ⟨r0, r1, r2, r3, r4⟩ := HC1.out
  have kk := KRL.out w1
  cases hq2 : rightL lv
  ·have HF : Hid (R = true) := Lib.hid (by rw [HE.out]; simp [hq2])
   rw [hq2] at kk
   clear hq2
   go_wp2_with fail
   refine kk.mono ?_
   rintro e w2 ⟨rfl, hb2⟩
   have HB := Lib.hid (HB1.out.trans (hb2.mono HB1.out.size))
   clear hb2 kk r0 r1 r2 r3 r4
   go_wp2
   go_ret
   exact ⟨by rw [HF.out]; rfl, HB.out⟩
  ·rw [hq2] at kk
   have HQ2 := Lib.hid hq2
   clear hq2
   go_wp2_with fail
   refine kk.mono ?_
   rintro e w2 ⟨rfl, hb2⟩
   have HB2 := Lib.hid (HB1.out.trans (hb2.mono HB1.out.size))
   have HC2 := Lib.hid (C5.later HC1.out hb2 HL1.out)
   have HL2 := Lib.hid (Nat.lt_of_lt_of_le HL1.out hb2.size)
   clear hb2 kk r0 r1 r2 r3 r4 HC1 HL1
   obtain ⟨r0, r1, r2, r3, r4⟩ := HC2.out
   have kk := KW1.out _ HB2.out
   cases hq3 : whenP frm
   ·have HF : Hid (R = true) := Lib.hid (by rw [HE.out]; simp [hq3])
    rw [hq3] at kk
    clear hq3
    go_wp2_with fail
    refine kk.mono ?_
    rintro e w3 ⟨rfl, hb3⟩
    have HB := Lib.hid (HB2.out.trans (hb3.mono HB2.out.size))
    clear hb3 kk r0 r1 r2 r3 r4
    go_wp2
    go_ret
    exact ⟨by rw [HF.out]; rfl, HB.out⟩
   ·rw [hq3] at kk
    have HQ3 := Lib.hid hq3
    clear hq3
    go_wp2_with fail
    refine kk.mono ?_
    rintro e w3 ⟨rfl, hb3⟩
    have HB3 := Lib.hid (HB2.out.trans (hb3.mono HB2.out.size))
    have HC3 := Lib.hid (C5.later HC2.out hb3 HL2.out)
    have HL3 := Lib.hid (Nat.lt_of_lt_of_le HL2.out hb3.size)
    clear hb3 kk r0 r1 r2 r3 r4 HC2 HL2
    obtain ⟨r0, r1, r2, r3, r4⟩ := HC3.out
    have kk := KW2.out _ HB3.out
    cases hq4 : whenP whn
    ·have HF : Hid (R = true) := Lib.hid (by rw [HE.out]; simp [hq4])
     rw [hq4] at kk
     clear hq4
     go_wp2_with fail
     refine kk.mono ?_
     rintro e w4 ⟨rfl, hb4⟩
     have HB := Lib.hid (HB3.out.trans (hb4.mono HB3.out.size))
     clear hb4 kk r0 r1 r2 r3 r4
     go_wp2
     go_ret
     exact ⟨by rw [HF.out]; rfl, HB.out⟩
    ·rw [hq4] at kk
     have HQ4 := Lib.hid hq4
     clear hq4
     go_wp2_with fail
     refine kk.mono ?_
     rintro e w4 ⟨rfl, hb4⟩
     have HB4 := Lib.hid (HB3.out.trans (hb4.mono HB3.out.size))
     have HC4 := Lib.hid (C5.later HC3.out hb4 HL3.out)
     have HL4 := Lib.hid (Nat.lt_of_lt_of_le HL3.out hb4.size)
     clear hb4 kk r0 r1 r2 r3 r4 HC3 HL3
     have HF : Hid (R = false) := Lib.hid (by rw [HE.out, HQ1.out, HQ2.out, HQ3.out, HQ4.out]; rfl)
     go_wp2
     go_ret
     exact ⟨by rw [HF.out]; rfl, HB4.out⟩
/-! ### a route -/
set_option maxHeartbeats 1600000 in
set_option maxRecDepth 100000 in
theorem check2_any (re : List Nmd) (rv : Value) (bp : Nat) (x : PRt) (w : World) (hre : NmdsAt w rv re) (hrl : re.length ≤ maxLen) (hbx : w.cell? ⟨bp, 1, none⟩ = some rv) (hbl : bp < w.heap.size) (hin : RtIn w x) (hf : RtFit x) :
  Calls Tryz.prog 51 #[.agg #[.string x.rcv, x.bv, .int .i64 x.wait, .int .i64 x.every, .int .i64 x.again, x.wv], .pointer (some ⟨bp, 0, none⟩)] w fun e w' => e = .returned (.bool (badRt re x)) ∧ Below w.heap.size w w' := by
 have KBY := Lib.hid (fun W (h : Below w.heap.size w W) => pby_any x.bys x.bv W (RdAt.later hin.b h) hf.bys)
 have KWH := Lib.hid (fun W (h : Below w.heap.size w W) => pwhen_any x.whn x.wv W (hin.m.later h) hf.len hf.whn)
 have KFD := Lib.hid (fun W (h : Below w.heap.size w W) => find_any re x.rcv rv W (hre.later h) hrl)
 have HE : Hid (badRt re x = (!(findL re x.rcv).isSome || !byP x.bys || !timesP x || !whenP x.whn)) := rfl
 have HTI : Hid (timesP x = (decide (0 ≤ x.wait) && decide (x.wait ≤ 1000) && decide (1 ≤ x.every) && decide (x.every ≤ 1000) && decide (x.every ≤ x.again) && decide (x.again ≤ 100000))) := rfl
 obtain ⟨ra, rc, rfl, _, _⟩ := RdAt.shape hre
 generalize timesP x = T at *
 generalize badRt re x = R at *
 obtain ⟨rcv, bys, wait, every, again, whn, bv, wv⟩ := x
 dsimp only at *
 obtain ⟨ba, bc, hba, _, _⟩ := RdAt.shape hin.b
 dsimp only at hba
 subst hba
 obtain ⟨wa, wc, hwa, _, _⟩ := RdAt.shape hin.m
 dsimp only at hwa
 subst hwa
 clear hin hf hre hrl
 obtain ⟨W0, hW0⟩ : ∃ z, w.alloc (.cells #[.string rcv, .slice ba bys.length bc, .int .i64 wait, .int .i64 every, .int .i64 again, .slice wa whn.length wc] 84) = z := ⟨_, rfl⟩
 have hB0 : Below w.heap.size w W0 := by rw [← hW0]; exact alloc_below _ _
 have hC : C6 w.heap.size (.string rcv) (.slice ba bys.length bc) (.int .i64 wait) (.int .i64 every) (.int .i64 again) (.slice wa whn.length wc) W0 := by rw [← hW0]; exact box6n w _ _ _ _ _ _ _
 have hlt : w.heap.size < W0.heap.size := by rw [← hW0, World.size_alloc]; omega
 have p1 := keep_cell hbx hB0 hbl
 have HB0 := Lib.hid hB0
 have HC0 := Lib.hid hC
 have HL0 := Lib.hid hlt
 clear hB0 hC hlt hbx hbl
 go_enter Tryz.func51, Tryz.ntmps51
 go_upto_region 1 with fail
 clear hW0
 obtain ⟨r0, r1, r2, r3, r4, r5⟩ := HC0.out
 have kk := KFD.out _ HB0.out
 obtain ⟨fl, fc', fs, hfs, hfv⟩ : ∃ (fl : Int) (fc' : Nat) (fs : Bool), (findL re rcv).isSome = fs ∧ findV (findL re rcv) = .agg #[.int .i64 fl, .int .u32 fc'] := by
  cases findL re rcv with
  | none => exact ⟨0, 0, false, rfl, rfl⟩
  | some y => exact ⟨y.2.1, y.2.2, true, rfl, rfl⟩
 rw [hfs] at HE
 rw [hfs, hfv] at kk
 clear hfs hfv
 go_wp2_with fail
 refine kk.mono ?_
 rintro e w1 ⟨rfl, hb1⟩
 have HB1 := Lib.hid (HB0.out.trans (hb1.mono HB0.out.size))
 have HC1 := Lib.hid (C6.later HC0.out hb1 HL0.out)
 have HL1 := Lib.hid (Nat.lt_of_lt_of_le HL0.out hb1.size)
 clear hb1 kk r0 r1 r2 r3 r4 r5 p1 HC0 HL0 HB0
 go_upto_region 2 with fail
 change Code.wp _ _ _ _ (w1.alloc (.cells #[.int .i64 fl, .int .u32 fc'] 36))
 have hb2 := alloc_below w1 (.cells #[.int .i64 fl, .int .u32 fc'] 36)
 generalize w1.alloc (.cells #[.int .i64 fl, .int .u32 fc'] 36) = w2 at *
 have HB2 := Lib.hid (HB1.out.trans (hb2.mono HB1.out.size))
 have HC2 := Lib.hid (C6.later HC1.out hb2 HL1.out)
 have HL2 := Lib.hid (Nat.lt_of_lt_of_le HL1.out hb2.size)
 clear hb2 HB1 HC1 HL1
 obtain ⟨r0, r1, r2, r3, r4, r5⟩ := HC2.out
 go_cut [6] (fun s6 wx => s6 = .bool T ∧ wx = w2)
 case first =>
  have kb1 := fun b h W => betw_any wait 0 1000 b h W
  have kb2 := fun b h W => betw_any every 1 1000 b h W
  have kb3 := fun b h W => betw_any again every 100000 b h W
  clear HE KBY KWH KFD
  cases h1 : (decide (0 ≤ wait) && decide (wait ≤ 1000))
  ·obtain rfl : T = false := by rw [HTI.out, h1]; rfl
   have k1 := kb1 _ h1
   clear h1 HTI kb1 kb2 kb3
   go_wp2_with fail
   refine (k1 _).mono ?_
   rintro e w3 ⟨rfl, rfl⟩
   go_wp2
   go_meet
   exact ⟨rfl, rfl⟩
  ·have k1 := kb1 _ h1
   cases h2 : (decide (1 ≤ every) && decide (every ≤ 1000))
   ·obtain rfl : T = false := by rw [HTI.out, h1, Bool.true_and, h2]; rfl
    have k2 := kb2 _ h2
    clear h1 h2 HTI kb1 kb2 kb3
    go_wp2_with fail
    refine (k1 _).mono ?_
    rintro e w3 ⟨rfl, rfl⟩
    go_wp2_with fail
    refine (k2 _).mono ?_
    rintro e w3 ⟨rfl, rfl⟩
    go_wp2
    go_meet
    exact ⟨rfl, rfl⟩
   ·have k2 := kb2 _ h2
    obtain ⟨b3, h3⟩ : ∃ b, (decide (every ≤ again) && decide (again ≤ 100000)) = b := ⟨_, rfl⟩
    have k3 := kb3 _ h3
    obtain rfl : T = b3 := by rw [HTI.out, h1, Bool.true_and, h2, Bool.true_and, h3]
    clear h1 h2 h3 HTI kb1 kb2 kb3
    go_wp2_with fail
    refine (k1 _).mono ?_
    rintro e w3 ⟨rfl, rfl⟩
    go_wp2_with fail
    refine (k2 _).mono ?_
    rintro e w3 ⟨rfl, rfl⟩
    go_wp2_with fail
    refine (k3 _).mono ?_
    rintro e w3 ⟨rfl, rfl⟩
    go_wp2
    go_meet
    exact ⟨rfl, rfl⟩
 case rest =>
  obtain ⟨rfl, rfl⟩ := hcut
  clear HTI KFD
  cases fs
  ·have HF : Hid (R = true) := Lib.hid (by rw [HE.out]; rfl)
   clear HE
   go_wp2
   go_ret
   exact ⟨by rw [HF.out]; rfl, HB2.out⟩
  ·have kk := KBY.out _ HB2.out
   cases hby : byP bys
   ·have HF : Hid (R = true) := Lib.hid (by rw [HE.out]; simp [hby])
    rw [hby] at kk
    clear HE hby
    go_wp2_with fail
    refine kk.mono ?_
    rintro e w4 ⟨rfl, hb4⟩
    have HB4 := Lib.hid (HB2.out.trans (hb4.mono HB2.out.size))
    clear hb4 kk r0 r1 r2 r3 r4 r5
    go_wp2
    go_ret
    exact ⟨by rw [HF.out]; rfl, HB4.out⟩
   ·rw [hby] at kk HE
    clear hby
    go_wp2_with fail
    refine kk.mono ?_
    rintro e w4 ⟨rfl, hb4⟩
    have HB4 := Lib.hid (HB2.out.trans (hb4.mono HB2.out.size))
    have q5 := keep_cell r5 hb4 HL2.out
    clear hb4 kk r0 r1 r2 r3 r4 r5
    cases T
    ·have HF : Hid (R = true) := Lib.hid (by rw [HE.out]; rfl)
     clear HE
     go_wp2
     go_ret
     exact ⟨by rw [HF.out]; rfl, HB4.out⟩
    ·have kk := KWH.out _ HB4.out
     have HF : Hid (R = !whenP whn) := Lib.hid (by rw [HE.out]; rfl)
     generalize whenP whn = o at *
     clear HE
     go_wp2_with fail
     refine kk.mono ?_
     rintro e w5 ⟨rfl, hb5⟩
     have HB5 := Lib.hid (HB4.out.trans (hb5.mono HB4.out.size))
     clear hb5 kk q5
     go_wp2
     go_ret
     exact ⟨by rw [HF.out]; rfl, HB5.out⟩
end Go.Proofs.YtipnhpfpppblhaaGreat
/- policy.Check: the contract. -/
namespace Go.Proofs.YtipnhpfpppblhaaGreat
open Go.RowKit Go.Maps
def l4 (p : PD) (v : PV) : List (List Nmd × Value) := [(p.so, v.v0), (p.re, v.v1), (p.pe, v.v2), (p.ra, v.v3)]
def lgR (p : PD) : Bool := decide (12 < max p.ro.length p.ih.length)
theorem long_l4 (p : PD) (v : PV) : longP p = (lgR p || (l4 p v).any fun x => decide (12 < x.1.length)) := by
 have h : decide (12 < max p.ro.length p.ih.length) = (decide (12 < p.ro.length) || decide (12 < p.ih.length)) := by
  rw [Bool.eq_iff_iff]; simp only [decide_eq_true_eq, Bool.or_eq_true]; omega
 unfold longP lgR l4
 rw [h]
 simp only [List.any_cons, List.any_nil, Bool.or_false]
 cases decide (12 < p.so.length) <;> cases decide (12 < p.re.length) <;> cases decide (12 < p.pe.length) <;> cases decide (12 < p.ra.length) <;> cases decide (12 < p.ro.length) <;> cases decide (12 < p.ih.length) <;> rfl
theorem names_l4 (p : PD) (v : PV) : ((l4 p v).any fun x => !namedP x.1) = !namesP p := by
 unfold namesP l4
 simp only [List.any_cons, List.any_nil, Bool.or_false]
 cases namedP p.so <;> cases namedP p.re <;> cases namedP p.pe <;> cases namedP p.ra <;> rfl
theorem longs_no {p : PD} (h : longP p = false) : p.ro.length ≤ 12 ∧ p.ih.length ≤ 12 := by
 unfold longP at h
 simp only [Bool.or_eq_false_iff, decide_eq_false_iff_not] at h
 omega
set_option maxHeartbeats 1600000 in
set_option maxRecDepth 100000 in
theorem pcheck_any (v : PV) (p : PD) (w : World) (hv : PolAt w v p) (hf : PolFitD p) :
  Calls Tryz.prog 27 #[v.v] w fun e w' => e = .returned (.int .i64 (checkP p)) ∧ Below w.heap.size w w' := by
 have HLG := Lib.hid (long_l4 p v)
 have HNM := Lib.hid (names_l4 p v)
 have hmem : ∀ x ∈ l4 p v, NmdsAt w x.2 x.1 ∧ NmdWide x.1 := by
  intro x hx
  simp only [l4, List.mem_cons, List.not_mem_nil, or_false] at hx
  rcases hx with rfl | rfl | rfl | rfl
  ·exact ⟨hv.h0, hf.h0⟩
  ·exact ⟨hv.h1, hf.h1⟩
  ·exact ⟨hv.h2, hf.h2⟩
  ·exact ⟨hv.h3, hf.h3⟩
 have HM := Lib.hid hmem
 have HV := Lib.hid hv
 have HFT := Lib.hid hf
 have hl4 : (l4 p v).map (·.2) = [v.v0, v.v1, v.v2, v.v3] := rfl
 have hlen4 : (l4 p v).length = 4 := rfl
 generalize l4 p v = L at *
 obtain ⟨v0, v1, v2, v3, v4, v5⟩ := v
 obtain ⟨a0, c0, h0, _, _⟩ := RdAt.shape hv.h0
 obtain ⟨a1, c1, h1, _, _⟩ := RdAt.shape hv.h1
 obtain ⟨a2, c2, h2, _, _⟩ := RdAt.shape hv.h2
 obtain ⟨a3, c3, h3, _, _⟩ := RdAt.shape hv.h3
 obtain ⟨a4, c4, h4, _, _⟩ := RdAt.shape hv.h4.1
 obtain ⟨a5, c5, h5, _, _⟩ := RdAt.shape hv.h5.1
 dsimp only at h0 h1 h2 h3 h4 h5 hl4
 subst h0 h1 h2 h3 h4 h5
 have hro := hf.l4
 have hih := hf.l5
 unfold maxLen at hro hih
 obtain ⟨W0, hW0⟩ : ∃ z, w.alloc (.cells #[.slice a0 p.so.length c0, .slice a1 p.re.length c1, .slice a2 p.pe.length c2, .slice a3 p.ra.length c3, .slice a4 p.ro.length c4, .slice a5 p.ih.length c5] 26) = z := ⟨_, rfl⟩
 have hB0 : Below w.heap.size w W0 := by rw [← hW0]; exact alloc_below _ _
 have hC0 : C6 w.heap.size (.slice a0 p.so.length c0) (.slice a1 p.re.length c1) (.slice a2 p.pe.length c2) (.slice a3 p.ra.length c3) (.slice a4 p.ro.length c4) (.slice a5 p.ih.length c5) W0 := by rw [← hW0]; exact box6n w _ _ _ _ _ _ _
 have hlt0 : w.heap.size < W0.heap.size := by rw [← hW0, World.size_alloc]; omega
 have hT : NlsAt (W0.alloc (.cells #[.slice a0 p.so.length c0, .slice a1 p.re.length c1, .slice a2 p.pe.length c2, .slice a3 p.ra.length c3] 22)) (.slice (some ⟨W0.heap.size, 0, none⟩) 4 4) L := by
  unfold NlsAt
  rw [hlen4, hl4]
  exact RdAt.mk rfl (Nat.le_refl _) (by rw [World.size_alloc]; omega) (fun j x hj => by
   have hc : (W0.alloc (.cells #[.slice a0 p.so.length c0, .slice a1 p.re.length c1, .slice a2 p.pe.length c2, .slice a3 p.ra.length c3] 22)).cell? ⟨W0.heap.size, j, none⟩ = _ := World.cell?_alloc_at _ _ _ _ rfl
   rw [Nat.zero_add, hc, ← Array.getElem?_toList]
   exact hj)
 have hb1 := alloc_below W0 (.cells #[.slice a0 p.so.length c0, .slice a1 p.re.length c1, .slice a2 p.pe.length c2, .slice a3 p.ra.length c3] 22)
 obtain ⟨q0, q1, q2, q3, q4, q5⟩ := hC0
 have HW0 := Lib.hid hW0
 have HT := Lib.hid hT
 have HB1 := Lib.hid (hB0.trans (hb1.mono hB0.size))
 have HC1 := Lib.hid (C6.later ⟨q0, q1, q2, q3, q4, q5⟩ hb1 hlt0)
 have HL1 := Lib.hid (Nat.lt_of_lt_of_le hlt0 hb1.size)
 have HLEN := Lib.hid hlen4
 clear hv hf hmem hl4 hlen4 hW0 hB0 hlt0 hT hb1
 go_enter Tryz.func27, Tryz.ntmps27
 go_upto_region 1 with fail
 rw [HW0.out]
 go_upto_region 2 with fail
 change Code.wp _ _ _ _ (W0.alloc (.cells #[.slice a0 p.so.length c0, .slice a1 p.re.length c1, .slice a2 p.pe.length c2, .slice a3 p.ra.length c3] 22))
 clear q0 q1 q2 q3 q4 q5 HW0
 generalize W0.alloc (.cells #[.slice a0 p.so.length c0, .slice a1 p.re.length c1, .slice a2 p.pe.length c2, .slice a3 p.ra.length c3] 22) = w1 at *
 generalize W0.heap.size = g at *
 obtain ⟨q0, q1, q2, q3, q4, q5⟩ := HC1.out
 obtain ⟨lg, hlg⟩ : ∃ z, lgR p = z := ⟨_, rfl⟩
 have HLR := Lib.hid hlg
 rw [hlg] at HLG
 unfold lgR at hlg
 have hmx : max (p.ro.length : Int) (p.ih.length : Int) = ((max p.ro.length p.ih.length : Nat) : Int) := by omega
 go_cut [4] (fun s4 wx => s4 = .bool lg ∧ wx = w1)
 case first =>
  by_cases h12 : 12 < max p.ro.length p.ih.length
  ·obtain rfl : lg = true := by rw [← hlg, decide_eq_true h12]
   have hi : (12 : Int) < ((max p.ro.length p.ih.length : Nat) : Int) := by omega
   generalize max p.ro.length p.ih.length = mx at *
   clear hlg
   go_wp2
   go_meet
   exact ⟨rfl, rfl⟩
  ·obtain rfl : lg = false := by rw [← hlg, decide_eq_false h12]
   have hi : ¬ (12 : Int) < ((max p.ro.length p.ih.length : Nat) : Int) := by omega
   generalize max p.ro.length p.ih.length = mx at *
   clear hlg
   go_wp2
   go_meet
   exact ⟨rfl, rfl⟩
 case rest =>
  obtain ⟨rfl, rfl⟩ := hcut
  clear hlg hmx q0 q1 q2 q3 q4 q5
  obtain ⟨ta, tc, hsl, _, htr⟩ := RdAt.shape HT.out
  simp only [Value.slice.injEq] at hsl
  obtain ⟨hs1, hs2, hs3⟩ := hsl
  subst hs1
  clear hs2 hs3
  have HTR := Lib.hid htr
  clear htr
  go_wp2
  go_loopw [4, 29] (fun s4 i wr => ∃ (k : Nat) (b : Bool), i = .int .i64 k ∧ k ≤ 4 ∧ s4 = .bool b ∧ Hid (b = (lg || (L.take k).any fun x => decide (12 < x.1.length))) ∧ wr = wc) (fun _ i _ => 4 - (intOf i).toNat)
  case atStart => exact ⟨0, lg, rfl, Nat.zero_le _, rfl, Lib.hid (by simp), rfl⟩
  case round =>
   obtain ⟨k, b, rfl, hk, rfl, HBV, hwr⟩ := hrel
   subst hwr
   by_cases hkl : k < 4
   ·have hkL : k < L.length := by rw [HLEN.out]; exact hkl
    obtain ⟨b', o', hbo, hbl, hcell⟩ := HTR.out (by omega)
    simp only [Option.some.injEq, Addr.mk.injEq, and_true] at hbo
    obtain ⟨rfl, rfl⟩ := hbo
    have c0 := hcell k _ (by rw [List.getElem?_map, List.getElem?_eq_getElem hkL]; rfl)
    rw [Nat.zero_add] at c0
    obtain ⟨na, nc, hsh, _, _⟩ := RdAt.shape (HM.out L[k] (List.getElem_mem hkL)).1
    have d0 : wr.cell? ⟨g, k, none⟩ = some L[k].2 := c0
    rw [hsh] at d0
    clear c0
    have hstep : (L.take (k + 1)).any (fun x => decide (12 < x.1.length)) = ((L.take k).any (fun x => decide (12 < x.1.length)) || decide (12 < L[k].1.length)) := by
     rw [List.take_succ_eq_append_getElem hkL, List.any_append]; simp
    generalize L[k].1.length = nn at *
    have HST := Lib.hid hstep
    clear hcell hsh hstep hbl
    cases b
    ·by_cases hn : 12 < nn
     ·have HN : Hid (true = (lg || (L.take (k + 1)).any fun x => decide (12 < x.1.length))) := Lib.hid (by rw [HST.out, decide_eq_true hn]; simp)
      have hi : (12 : Int) < (nn : Int) := by omega
      go_wp2
      go_roundw
      case rel => exact ⟨k + 1, true, by go_num, by omega, rfl, HN, trivial⟩
      case measure => (simp [intOf]; try omega)
     ·have HN : Hid (false = (lg || (L.take (k + 1)).any fun x => decide (12 < x.1.length))) := Lib.hid (by rw [HST.out, decide_eq_false hn, Bool.or_false]; exact HBV.out)
      have hi : ¬ (12 : Int) < (nn : Int) := by omega
      go_wp2
      go_roundw
      case rel => exact ⟨k + 1, false, by go_num, by omega, rfl, HN, trivial⟩
      case measure => (simp [intOf]; try omega)
    ·have HN : Hid (true = (lg || (L.take (k + 1)).any fun x => decide (12 < x.1.length))) := Lib.hid (by rw [HST.out, ← Bool.or_assoc, ← HBV.out]; rfl)
     go_wp2
     go_roundw
     case rel => exact ⟨k + 1, true, by go_num, by omega, rfl, HN, trivial⟩
     case measure => (simp [intOf]; try omega)
   ·obtain rfl : k = 4 := by omega
    have HLP : Hid (longP p = b) := Lib.hid (by rw [HLG.out, HBV.out, List.take_of_length_le (by rw [HLEN.out]; exact Nat.le_refl _)])
    clear HBV HTR hk hkl
    cases b
    ·obtain ⟨hr12, hi12⟩ := longs_no HLP.out
     obtain ⟨q0, q1, q2, q3, q4, q5⟩ := HC1.out
     have kk := hasL_gen L (fun x => !namedP x.1) 49 #[] (enters_of Tryz.func49 (by kernel_rfl) rfl) _ wr HT.out (by rw [HLEN.out]; decide) (fun W x hx hW => check1_any x.1 x.2 W ((HM.out x hx).1.later (HB1.out.trans (hW.mono HB1.out.size))) (HM.out x hx).2)
     rw [HNM.out] at kk
     cases hnp : namesP p
     ·have HF : Hid (checkP p = 1) := Lib.hid (check_names HLP.out hnp)
      rw [hnp] at kk
      clear hnp
      go_wp2_with fail
      refine kk.mono ?_
      rintro e w2 ⟨rfl, hb2⟩
      have HB2 := Lib.hid (HB1.out.trans (hb2.mono HB1.out.size))
      clear hb2 kk q0 q1 q2 q3 q4 q5
      go_wp2
      go_ret
      exact ⟨by rw [HF.out]; rfl, HB2.out⟩
     ·rw [hnp] at kk
      have HNP := Lib.hid hnp
      clear hnp
      go_wp2_with fail
      refine kk.mono ?_
      rintro e w2 ⟨rfl, hb2⟩
      have HB2 := Lib.hid (HB1.out.trans (hb2.mono HB1.out.size))
      have HC2 := Lib.hid (C6.later HC1.out hb2 HL1.out)
      have HL2 := Lib.hid (Nat.lt_of_lt_of_le HL1.out hb2.size)
      clear hb2 kk q0 q1 q2 q3 q4 q5 HC1 HL1 HB1
      obtain ⟨q0, q1, q2, q3, q4, q5⟩ := HC2.out
      have kk := hasR_gen p.ro (badRt p.re) 51 #[.pointer (some ⟨w.heap.size, 0, none⟩)] (enters_of Tryz.func51 (by kernel_rfl) rfl) _ w2 (HV.out.later HB2.out).h4.1 (by omega) (fun W x hx hW => check2_any p.re _ w.heap.size x W (HV.out.later (HB2.out.trans (hW.mono HB2.out.size))).h1 HFT.out.h1.1 (keep_cell HC2.out.2.1 hW HL2.out) (Nat.lt_of_lt_of_le HL2.out hW.size) ((HV.out.later (HB2.out.trans (hW.mono HB2.out.size))).h4.2 x hx) (HFT.out.h4 x hx))
      dsimp only at kk
      cases hrt : p.ro.any (badRt p.re)
      ·rw [hrt] at kk
       have HRT := Lib.hid hrt
       clear hrt
       go_wp2_with fail
       refine kk.mono ?_
       rintro e w3 ⟨rfl, hb3⟩
       have HB3 := Lib.hid (HB2.out.trans (hb3.mono HB2.out.size))
       have HC3 := Lib.hid (C6.later HC2.out hb3 HL2.out)
       clear hb3 kk q0 q1 q2 q3 q4 q5 HC2 HL2 HB2
       obtain ⟨q0, q1, q2, q3, q4, q5⟩ := HC3.out
       have kk := hasI_gen p.ih badIh 56 #[] (enters_of Tryz.func56 (by kernel_rfl) rfl) _ w3 (HV.out.later HB3.out).h5.1 (by omega) (fun W x hx hW => check3_any x W ((HV.out.later (HB3.out.trans (hW.mono HB3.out.size))).h5.2 x hx) (HFT.out.h5 x hx))
       dsimp only at kk
       have HF : Hid (checkP p = if p.ih.any badIh then 1 else 0) := Lib.hid (by unfold checkP; rw [HLP.out, HNP.out, HRT.out]; rfl)
       generalize p.ih.any badIh = o at *
       go_wp2_with fail
       refine kk.mono ?_
       rintro e w4 ⟨rfl, hb4⟩
       have HB4 := Lib.hid (HB3.out.trans (hb4.mono HB3.out.size))
       clear hb4 kk q0 q1 q2 q3 q4 q5
       cases o
       ·go_wp2
        go_ret
        exact ⟨by rw [HF.out]; rfl, HB4.out⟩
       ·go_wp2
        go_ret
        exact ⟨by rw [HF.out]; rfl, HB4.out⟩
      ·have HF : Hid (checkP p = 1) := Lib.hid (by unfold checkP; rw [HLP.out, HNP.out, hrt]; rfl)
       rw [hrt] at kk
       clear hrt
       go_wp2_with fail
       refine kk.mono ?_
       rintro e w3 ⟨rfl, hb3⟩
       have HB3 := Lib.hid (HB2.out.trans (hb3.mono HB2.out.size))
       clear hb3 kk q0 q1 q2 q3 q4 q5
       go_wp2
       go_ret
       exact ⟨by rw [HF.out]; rfl, HB3.out⟩
    ·have HF : Hid (checkP p = 4) := Lib.hid (check_long HLP.out)
     go_wp2
     go_ret
     exact ⟨by rw [HF.out]; rfl, HB1.out⟩
end Go.Proofs.YtipnhpfpppblhaaGreat
/- The arguments of chapter 09's laws: alerts, labels, numbers, policies. -/
namespace Go.Proofs.YtipnhpfpppblhaaGreat
open Go.RowKit Go.WideShapes Go.ChangeShapes Go.Deep
theorem cell_ltA {w : World} {a : Addr} {v : Value} (h : w.cell? a = some v) : a.block < w.heap.size := by
 rcases Nat.lt_or_ge a.block w.heap.size with h' | h'
 ·exact h'
 ·simp [World.cell?, Array.getElem?_eq_none h'] at h
section
variable {H : Type} {enc : TypeId × Value → H} {P : Program} {w : World} {base : Nat} {spare : Nat → Bool} {held : Bool}
theorem open_slice_structs {t e : TypeId} {fs : Array Field} {fuel : Nat} {cs : List Value} {x : DataW H × List MemPlace} (ht : P.underlying t = some (.slice e)) (he : P.underlying e = some (.struct fs))
  (h : DataW.trod enc P w base spare held fuel t cs = some x) :
  cs = [.slice none 0 0] ∨
  ∃ (a : Addr) (len cap : Nat), cs = [.slice (some a) len cap] ∧ len ≤ cap ∧ cap ≤ maxLen ∧
   ∀ i, i < len → ∃ (es : List Value) (n : Nat), es.length = P.cellsOf e ∧ (∀ j, j < P.cellsOf e → w.cell? (a.add (i * P.cellsOf e + j)) = es[j]?) ∧
    ∀ (j : Nat) (f : Field), fs[j]? = some f → ∃ y, DataW.trod enc P w base spare held n f.type ((es.drop f.offset).take (P.cellsOf f.type)) = some y := by
 rcases open_slice ht h with ⟨h0, _⟩ | ⟨a, len, cap, m, n, D, Pl, hcs, hb, hl, hm, hmm, hx, hi⟩
 ·exact .inl h0
 ·refine .inr ⟨a, len, cap, hcs, hl, hm, fun i hil => ?_⟩
  obtain ⟨cs', hc, ht'⟩ := hi i (by rw [hmm]; split <;> omega)
  obtain ⟨ys, n', hn', hy, hlen, hyl, hf⟩ := DataW.trod_struct he ht'
  obtain ⟨_, hcl, hat⟩ := World.cells?_some hc
  refine ⟨cs', n', by omega, fun j hj => ?_, fun j f hj => ?_⟩
  ·rw [← Go.Deep.add_add]; exact hat j hj
  ·have hjl : j < fs.size := (Array.getElem?_eq_some_iff.1 hj).1
   have h1 := hf j f hj
   exact ⟨_, h1.trans (List.getElem?_eq_getElem (by omega))⟩
end
def ArgFlds (w : World) (v : Value) (fl : List Fld) : Prop := FldsAt w v fl ∧ fl.length ≤ maxLen ∧ FldsFit fl
theorem add_off {b o j : Nat} : (⟨b, o, none⟩ : Addr).add j = ⟨b, o + j, none⟩ := Go.WideShapes.add_plain ..
set_option maxRecDepth 100000 in
theorem flds_of_trod {H : Type} {enc : TypeId × Value → H} {W : World} {n : Nat} {v : Value} {x : DataW H × List MemPlace} (h : DataW.trod enc Tryz.prog W 0 (fun _ => true) true n 52 [v] = some x) : ∃ fl, ArgFlds W v fl := by
 have hC : Tryz.prog.cellsOf 90 = 2 := by kernel_rfl
 have hcs1 : Tryz.prog.cellsOf 9 = 1 := by kernel_rfl
 rcases open_slice_structs Tryz.underlying52 Tryz.underlying90 h with hcs | ⟨a, len, cap, hcs, hl, hm, hf⟩
 ·cases hcs
  exact ⟨[], RdAt.nil W 2, Nat.zero_le _, fun _ h => by cases h⟩
 ·cases hcs
  rw [hC] at hf
  have hone : ∀ i, i < len → ∃ s : Fld, W.cell? (a.add (i * 2)) = some (.string s.1) ∧ W.cell? (a.add (i * 2 + 1)) = some (.string s.2) ∧ s.1.size ≤ maxLen ∧ s.2.size ≤ maxLen := by
   intro i hi
   obtain ⟨es, n, hlen, hat, hfs⟩ := hf i hi
   match es, hlen with
   | [e0, e1], _ =>
    obtain ⟨y0, t0⟩ := hfs 0 _ rfl
    obtain ⟨y1, t1⟩ := hfs 1 _ rfl
    obtain ⟨s0, q0, _, z0⟩ := DataW.trod_string Tryz.underlying9 t0
    obtain ⟨s1, q1, _, z1⟩ := DataW.trod_string Tryz.underlying9 t1
    simp [hcs1] at q0 q1
    subst q0 q1
    exact ⟨(s0, s1), hat 0 (by omega), hat 1 (by omega), z0, z1⟩
  have hg : ∃ g : Nat → Fld, ∀ i, i < len → W.cell? (a.add (i * 2)) = some (.string (g i).1) ∧ W.cell? (a.add (i * 2 + 1)) = some (.string (g i).2) ∧ (g i).1.size ≤ maxLen ∧ (g i).2.size ≤ maxLen :=
   ⟨fun i => if h : i < len then Classical.choose (hone i h) else default, fun i h => by have := Classical.choose_spec (hone i h); simpa only [dif_pos h] using this⟩
  obtain ⟨g, hg⟩ := hg
  have hgl : ((List.range len).map g).length = len := by simp
  refine ⟨(List.range len).map g, ⟨fldCells_len _, .inr ⟨a, cap, by rw [hgl], by omega, fun hn => ?_⟩⟩, by rw [hgl]; omega, fun s hs => ?_⟩
  ·rw [hgl] at hn
   obtain ⟨b, off, spot⟩ := a
   have h0 := (hg 0 hn).1
   have hspot : spot = none := by simpa [Addr.add] using World.cell?_spot h0
   subst hspot
   refine ⟨b, off, rfl, by have := cell_ltA h0; simpa [Addr.add] using this, fun j x hj => ?_⟩
   have hjl := (List.getElem?_eq_some_iff.1 hj).1
   rw [fldCells_len, hgl] at hjl
   obtain ⟨m, r, hr2, rfl⟩ : ∃ m r, r < 2 ∧ j = m * 2 + r := ⟨j / 2, j % 2, Nat.mod_lt _ (by decide), by omega⟩
   obtain ⟨q0, q1⟩ := fldCells_at ((List.range len).map g) m (by rw [hgl]; omega)
   obtain ⟨h1, h2, _⟩ := hg m (by omega)
   simp only [List.getElem_map, List.getElem_range] at q0 q1
   rw [add_off] at h1 h2
   match r, hr2 with
   | 0, _ => rw [Nat.add_zero] at hj ⊢; rw [q0] at hj; rw [← Option.some.inj hj]; exact h1
   | 1, _ => rw [q1] at hj; rw [← Option.some.inj hj]; exact h2
  ·obtain ⟨i, hi, rfl⟩ := List.mem_map.1 hs
   exact (hg i (List.mem_range.1 hi)).2.2
theorem lit_u32 {c : Int} (h : (Lit.int .u32 c).wf = true) : ∃ n : Nat, c = n ∧ n < 4294967296 := by
 have : 0 ≤ c ∧ c ≤ 4294967295 := by
  simp [Lit.wf, IntKind.min, IntKind.max, IntKind.signed, IntKind.bits] at h; omega
 exact ⟨c.toNat, by omega, by omega⟩
theorem lab_of_trod {H : Type} {enc : TypeId × Value → H} {W : World} {n : Nat} {c0 c1 : Value} {x : DataW H × List MemPlace} (h : DataW.trod enc Tryz.prog W 0 (fun _ => true) true n 36 [c0, c1] = some x) : ∃ (l : Int) (c : Nat), c0 = .int .i64 l ∧ c1 = .int .u32 c ∧ c < 4294967296 := by
 have hci : Tryz.prog.cellsOf 3 = 1 := by kernel_rfl
 have hcu : Tryz.prog.cellsOf 34 = 1 := by kernel_rfl
 obtain ⟨ys, n', hn', hy, hlen, hyl, hf⟩ := DataW.trod_struct Tryz.underlying36 h
 have t0 := hf 0 _ rfl
 have t1 := hf 1 _ rfl
 match ys, hyl with
 | [y0, y1], _ =>
  obtain ⟨k0, q0, _, _⟩ := DataW.trod_int Tryz.underlying3 t0
  obtain ⟨k1, q1, _, w1⟩ := DataW.trod_int Tryz.underlying34 t1
  simp [hci] at q0
  simp [hcu] at q1
  subst q0 q1
  obtain ⟨m, rfl, hm⟩ := lit_u32 w1
  exact ⟨k0, m, rfl, rfl, hm⟩
def ArgAl (w : World) (v : Value) (x : Al) (fv : Value) : Prop := v = .agg #[.string x.src, fv, .int .i64 x.lv, .int .u32 x.c, .int .i64 x.fr, .int .i64 x.til] ∧ FldsAt w fv x.fl ∧ AlFit x
theorem al_of_trod {H : Type} {enc : TypeId × Value → H} {W : World} {n : Nat} {c0 c1 c2 c3 c4 c5 : Value} {x : DataW H × List MemPlace} (h : DataW.trod enc Tryz.prog W 0 (fun _ => true) true n 58 [c0, c1, c2, c3, c4, c5] = some x) : ∃ x fv, ArgAl W (.agg #[c0, c1, c2, c3, c4, c5]) x fv := by
 have hci : Tryz.prog.cellsOf 3 = 1 := by kernel_rfl
 have hcs : Tryz.prog.cellsOf 9 = 1 := by kernel_rfl
 have hcl : Tryz.prog.cellsOf 36 = 2 := by kernel_rfl
 have hcf : Tryz.prog.cellsOf 52 = 1 := by kernel_rfl
 obtain ⟨ys, n', hn', hy, hlen, hyl, hf⟩ := DataW.trod_struct Tryz.underlying58 h
 have t0 := hf 0 _ rfl
 have t1 := hf 1 _ rfl
 have t2 := hf 2 _ rfl
 have t3 := hf 3 _ rfl
 have t4 := hf 4 _ rfl
 match ys, hyl with
 | [y0, y1, y2, y3, y4], _ =>
  obtain ⟨s, q0, _, z0⟩ := DataW.trod_string Tryz.underlying9 t0
  simp [hcs] at q0
  subst q0
  have t1' : DataW.trod enc Tryz.prog W 0 (fun _ => true) true n' 52 [c1] = some y1 := by simpa [hcf] using t1
  obtain ⟨fl, hfl⟩ := flds_of_trod t1'
  have t2' : DataW.trod enc Tryz.prog W 0 (fun _ => true) true n' 36 [c2, c3] = some y2 := by simpa [hcl] using t2
  obtain ⟨l, c, e2, e3, hc⟩ := lab_of_trod t2'
  obtain ⟨k3, q3, _, _⟩ := DataW.trod_int Tryz.underlying3 t3
  obtain ⟨k4, q4, _, _⟩ := DataW.trod_int Tryz.underlying3 t4
  simp [hci] at q3 q4
  subst q3 q4
  subst e2 e3
  exact ⟨⟨s, fl, l, c, k3, k4⟩, c1, rfl, hfl.1, z0, hfl.2.2, hfl.2.1, hc⟩
set_option maxRecDepth 100000 in
theorem al_of_arg {H : Type} {enc : TypeId × Value → H} {W : World} {base : Nat} {v : Value} {d : DataW H} {p : List MemPlace} (hval : Value.okWide Tryz.prog W .any base 58 v) (h : DataW.Trod enc Tryz.prog W 0 (fun _ => true) true 58 v d p) : ∃ x fv, ArgAl W v x fv := by
 obtain ⟨cs, rfl, hsz, _⟩ : ∃ cs, v = .agg cs ∧ cs.size = Tryz.prog.cellsOf 58 ∧ Row.okWide Tryz.prog W .any base 58 cs := by
  simpa [Value.okWide, Tryz.underlying58] using hval
 rw [show Tryz.prog.cellsOf 58 = 6 by kernel_rfl] at hsz
 obtain ⟨fuel, hf⟩ := h
 obtain ⟨l⟩ := cs
 match l, hsz with
 | [c0, c1, c2, c3, c4, c5], _ => exact al_of_trod hf
end Go.Proofs.YtipnhpfpppblhaaGreat
/- Arguments: policies, whole; alerts; labels. -/
namespace Go.Proofs.YtipnhpfpppblhaaGreat
open Go.RowKit Go.WideShapes Go.ChangeShapes Go.Deep
theorem nmdCells_eq (l : List Nmd) : nmdCells l = cellsG nmdC l := by
 induction l with
 | nil => rfl
 | cons x l ih => simp only [nmdCells, cellsG, ih]
theorem mtCells_eq (l : List Mt) : mtCells l = cellsG mtC l := by
 induction l with
 | nil => rfl
 | cons x l ih => simp only [mtCells, cellsG, ih]; rfl
section
variable {H : Type} {enc : TypeId × Value → H} {P : Program} {W : World} {base : Nat} {spare : Nat → Bool} {held : Bool}
theorem row_cellsG {a : Addr} {len size : Nat} {f : Nat → List Value} (h0 : 0 < size) (hlen : ∀ i, i < len → (f i).length = size) (hat : ∀ i, i < len → ∀ j, j < size → W.cell? (a.add (i * size + j)) = (f i)[j]?) (hp : 0 < len) :
  ∃ b o, a = ⟨b, o, none⟩ ∧ b < W.heap.size ∧ ∀ i, i < len → ∀ j x, (f i)[j]? = some x → W.cell? ⟨b, o + (i * size + j), none⟩ = some x := by
 obtain ⟨b, off, spot⟩ := a
 obtain ⟨x0, hx0⟩ : ∃ x, (f 0)[0]? = some x := ⟨_, List.getElem?_eq_getElem (by rw [hlen 0 hp]; exact h0)⟩
 have hc := hat 0 hp 0 h0
 rw [hx0] at hc
 have hspot : spot = none := by simpa [Addr.add] using World.cell?_spot hc
 subst hspot
 refine ⟨b, off, rfl, by have := cell_ltA hc; simpa [Addr.add] using this, fun i hi j x hx => ?_⟩
 have hj : j < size := by have := (List.getElem?_eq_some_iff.1 hx).1; rw [hlen i hi] at this; exact this
 have := hat i hi j hj
 rw [add_off, hx] at this
 exact this
theorem rows_of_trod {α : Type} [Inhabited α] (f : α → List Value) (k : Nat) (hk : ∀ x, (f x).length = k) (h0 : 0 < k) {t e : TypeId} {fs : Array Field} {fuel : Nat} {v : Value} {x : DataW H × List MemPlace}
  (ht : P.underlying t = some (.slice e)) (he : P.underlying e = some (.struct fs)) (hC : P.cellsOf e = k) (Q : α → Prop)
  (hel : ∀ (es : List Value) (n : Nat), es.length = k → (∀ (j : Nat) (fd : Field), fs[j]? = some fd → ∃ y, DataW.trod enc P W base spare held n fd.type ((es.drop fd.offset).take (P.cellsOf fd.type)) = some y) → ∃ x, f x = es ∧ Q x)
  (h : DataW.trod enc P W base spare held fuel t [v] = some x) :
  ∃ (l : List α) (a : Option Addr) (c : Nat), v = .slice a l.length c ∧ l.length ≤ c ∧ c ≤ maxLen ∧ RdAt W v l.length k (cellsG f l) ∧ ∀ x ∈ l, Q x := by
 rcases open_slice_structs ht he h with hcs | ⟨a, len, cap, hcs, hl, hm, hf⟩
 ·cases hcs
  exact ⟨[], none, 0, rfl, Nat.le_refl _, Nat.zero_le _, RdAt.nil W k, fun _ h => by cases h⟩
 ·cases hcs
  rw [hC] at hf
  have hone : ∀ i, i < len → ∃ s : α, (∀ j, j < k → W.cell? (a.add (i * k + j)) = (f s)[j]?) ∧ Q s := by
   intro i hi
   obtain ⟨es, n, hlen, hat, hfs⟩ := hf i hi
   obtain ⟨x, hx, hq⟩ := hel es n hlen hfs
   exact ⟨x, by rw [hx]; exact hat, hq⟩
  obtain ⟨g, hg⟩ : ∃ g : Nat → α, ∀ i, i < len → (∀ j, j < k → W.cell? (a.add (i * k + j)) = (f (g i))[j]?) ∧ Q (g i) :=
   ⟨fun i => if h : i < len then Classical.choose (hone i h) else default, fun i h => by have := Classical.choose_spec (hone i h); simpa only [dif_pos h] using this⟩
  have hgl : ((List.range len).map g).length = len := by simp
  refine ⟨(List.range len).map g, some a, cap, by rw [hgl], by omega, hm, ⟨by rw [cellsG_len hk], .inr ⟨a, cap, by rw [hgl], by omega, fun hn => ?_⟩⟩, fun s hs => ?_⟩
  ·rw [hgl] at hn
   obtain ⟨b, o, rfl, hlt, hcell⟩ := row_cellsG (f := fun i => f (g i)) (size := k) h0 (fun _ _ => hk _) (fun i hi => (hg i hi).1) hn
   refine ⟨b, o, rfl, hlt, fun j x hj => ?_⟩
   have hjl := (List.getElem?_eq_some_iff.1 hj).1
   rw [cellsG_len hk, hgl] at hjl
   have hr : j % k < k := Nat.mod_lt _ h0
   have hjk : j / k * k + j % k = j := by rw [Nat.mul_comm]; exact Nat.div_add_mod j k
   have hmk : j / k < len := Nat.div_lt_of_lt_mul (by rw [Nat.mul_comm]; exact hjl)
   obtain ⟨y, hy⟩ : ∃ y, (f (g (j / k)))[j % k]? = some y := ⟨_, List.getElem?_eq_getElem (by rw [hk]; exact hr)⟩
   have hq := cellsG_at hk ((List.range len).map g) (j / k) (by rw [hgl]; exact hmk) (j % k) y (by simpa using hy)
   rw [hjk, hj] at hq
   obtain rfl := Option.some.inj hq
   have := hcell (j / k) hmk (j % k) x hy
   rwa [hjk] at this
  ·obtain ⟨i, hi, rfl⟩ := List.mem_map.1 hs
   exact (hg i (List.mem_range.1 hi)).2
end
instance : Inhabited Mt := ⟨⟨⟨#[]⟩, 0, ⟨#[]⟩⟩⟩
instance : Inhabited PRt := ⟨⟨⟨#[]⟩, [], 0, 0, 0, [], undef, undef⟩⟩
instance : Inhabited PIh := ⟨⟨[], 0, 0, [], [], undef, undef, undef⟩⟩
set_option maxRecDepth 100000 in
theorem mtsG_of_trod {H : Type} {enc : TypeId × Value → H} {W : World} {n : Nat} {v : Value} {x : DataW H × List MemPlace} (h : DataW.trod enc Tryz.prog W 0 (fun _ => true) true n 49 [v] = some x) : ∃ l, MtsAt W v l ∧ l.length ≤ maxLen ∧ MtsFit l := by
 have hcs1 : Tryz.prog.cellsOf 9 = 1 := by kernel_rfl
 have hci : Tryz.prog.cellsOf 3 = 1 := by kernel_rfl
 obtain ⟨l, a, c, hv, h1, h2, h3, h4⟩ := rows_of_trod mtC 3 (fun _ => rfl) (by decide) Tryz.underlying49 Tryz.underlying92 (by kernel_rfl) MtFit (fun es n hlen hfs => by
  match es, hlen with
  | [e0, e1, e2], _ =>
   obtain ⟨y0, t0⟩ := hfs 0 _ rfl
   obtain ⟨y1, t1⟩ := hfs 1 _ rfl
   obtain ⟨y2, t2⟩ := hfs 2 _ rfl
   obtain ⟨s0, q0, _, z0⟩ := DataW.trod_string Tryz.underlying9 t0
   obtain ⟨k1, q1, _, _⟩ := DataW.trod_int Tryz.underlying3 t1
   obtain ⟨s2, q2, _, z2⟩ := DataW.trod_string Tryz.underlying9 t2
   simp [hcs1] at q0 q2
   simp [hci] at q1
   subst q0 q1 q2
   exact ⟨⟨s0, k1, s2⟩, rfl, z0, z2⟩) h
 exact ⟨l, by unfold MtsAt; rw [mtCells_eq]; exact h3, Nat.le_trans h1 h2, h4⟩
set_option maxRecDepth 100000 in
theorem nmdsG_of_trod {H : Type} {enc : TypeId × Value → H} {W : World} {n : Nat} {v : Value} {x : DataW H × List MemPlace} (h : DataW.trod enc Tryz.prog W 0 (fun _ => true) true n 22 [v] = some x) : ∃ l, NmdsAt W v l ∧ NmdWide l := by
 have hcs1 : Tryz.prog.cellsOf 9 = 1 := by kernel_rfl
 have hcl : Tryz.prog.cellsOf 36 = 2 := by kernel_rfl
 obtain ⟨l, a, c, hv, h1, h2, h3, h4⟩ := rows_of_trod nmdC 3 (fun _ => rfl) (by decide) Tryz.underlying22 Tryz.underlying120 (by kernel_rfl) (fun y => y.2.2 < 4294967296 ∧ y.1.size ≤ maxLen) (fun es n hlen hfs => by
  match es, hlen with
  | [e0, e1, e2], _ =>
   obtain ⟨y0, t0⟩ := hfs 0 _ rfl
   obtain ⟨y1, t1⟩ := hfs 1 _ rfl
   obtain ⟨s0, q0, _, z0⟩ := DataW.trod_string Tryz.underlying9 t0
   simp [hcs1] at q0
   subst q0
   have t1' : DataW.trod enc Tryz.prog W 0 (fun _ => true) true n 36 [e1, e2] = some y1 := by simpa [hcl] using t1
   obtain ⟨l, c, r1, r2, hc⟩ := lab_of_trod t1'
   subst r1 r2
   exact ⟨(s0, l, c), rfl, hc, z0⟩) h
 exact ⟨l, by unfold NmdsAt; rw [nmdCells_eq]; exact h3, Nat.le_trans h1 h2, fun x hx => (h4 x hx).1, fun x hx => (h4 x hx).2⟩
set_option maxRecDepth 100000 in
theorem strsG_of_trod {H : Type} {enc : TypeId × Value → H} {W : World} {n : Nat} {v : Value} {x : DataW H × List MemPlace} (h : DataW.trod enc Tryz.prog W 0 (fun _ => true) true n 48 [v] = some x) : ∃ l, StrsG W v l ∧ StrsFit l := by
 rcases open_strings Tryz.underlying48 Tryz.underlying9 (by kernel_rfl) h with ⟨hcs, _⟩ | ⟨a, len, cap, ss, hcs, _, hl, hm, hz, _, hcell, hws⟩
 ·cases hcs
  exact ⟨[], RdAt.nil W 1, Nat.zero_le _, by simp⟩
 ·cases hcs
  simp only [if_true] at hz
  have hlen : (ss.take len).length = len := by rw [List.length_take]; omega
  refine ⟨ss.take len, ⟨by simp, .inr ⟨a, cap, by rw [hlen], by omega, fun hn => ?_⟩⟩, by rw [hlen]; omega, fun x hx => hws x (List.mem_of_mem_take hx)⟩
  rw [hlen] at hn
  obtain ⟨b, off, spot⟩ := a
  have hspot : spot = none := by simpa [Addr.add] using World.cell?_spot (hcell 0 (by omega))
  subst hspot
  have hall : ∀ j, j < ss.length → W.cell? ⟨b, off + j, none⟩ = some (.string (ss.getD j ByteArray.empty)) := fun j hj => by rw [← Go.WideShapes.add_plain]; exact hcell j hj
  refine ⟨b, off, rfl, cell_ltA (a := ⟨b, off + 0, none⟩) (hall 0 (by omega)), fun j x hx => ?_⟩
  rw [List.getElem?_map, Option.map_eq_some_iff] at hx
  obtain ⟨y, hy, rfl⟩ := hx
  have hj : j < len := by have := (List.getElem?_eq_some_iff.1 hy).1; rw [hlen] at this; exact this
  rw [hall j (by omega)]
  rw [List.getElem?_take_of_lt hj] at hy
  simp [List.getD, hy]
set_option maxRecDepth 100000 in
theorem rts_of_trod {H : Type} {enc : TypeId × Value → H} {W : World} {n : Nat} {v : Value} {x : DataW H × List MemPlace} (h : DataW.trod enc Tryz.prog W 0 (fun _ => true) true n 23 [v] = some x) : ∃ l, RtsAt W v l ∧ l.length ≤ maxLen ∧ ∀ r ∈ l, RtFit r := by
 have hcs1 : Tryz.prog.cellsOf 9 = 1 := by kernel_rfl
 have hci : Tryz.prog.cellsOf 3 = 1 := by kernel_rfl
 have hcm : Tryz.prog.cellsOf 49 = 1 := by kernel_rfl
 have hcn : Tryz.prog.cellsOf 48 = 1 := by kernel_rfl
 obtain ⟨l, a, c, hv, h1, h2, h3, h4⟩ := rows_of_trod rtC 6 (fun _ => rfl) (by decide) Tryz.underlying23 Tryz.underlying84 (by kernel_rfl) (fun r => RtIn W r ∧ RtFit r) (fun es n hlen hfs => by
  match es, hlen with
  | [e0, e1, e2, e3, e4, e5], _ =>
   obtain ⟨y0, t0⟩ := hfs 0 _ rfl
   obtain ⟨y1, t1⟩ := hfs 1 _ rfl
   obtain ⟨y2, t2⟩ := hfs 2 _ rfl
   obtain ⟨y3, t3⟩ := hfs 3 _ rfl
   obtain ⟨y4, t4⟩ := hfs 4 _ rfl
   obtain ⟨y5, t5⟩ := hfs 5 _ rfl
   obtain ⟨s0, q0, _, z0⟩ := DataW.trod_string Tryz.underlying9 t0
   obtain ⟨k2, q2, _, _⟩ := DataW.trod_int Tryz.underlying3 t2
   obtain ⟨k3, q3, _, _⟩ := DataW.trod_int Tryz.underlying3 t3
   obtain ⟨k4, q4, _, _⟩ := DataW.trod_int Tryz.underlying3 t4
   simp [hcs1] at q0
   simp [hci] at q2 q3 q4
   subst q0 q2 q3 q4
   have t1' : DataW.trod enc Tryz.prog W 0 (fun _ => true) true n 48 [e1] = some y1 := by simpa [hcn] using t1
   have t5' : DataW.trod enc Tryz.prog W 0 (fun _ => true) true n 49 [e5] = some y5 := by simpa [hcm] using t5
   obtain ⟨bs, b1, b2⟩ := strsG_of_trod t1'
   obtain ⟨ms, m1, m2, m3⟩ := mtsG_of_trod t5'
   exact ⟨⟨s0, bs, k2, k3, k4, ms, e1, e5⟩, rfl, ⟨b1, m1⟩, ⟨z0, b2, m3, m2⟩⟩) h
 exact ⟨l, ⟨h3, fun r hr => (h4 r hr).1⟩, Nat.le_trans h1 h2, fun r hr => (h4 r hr).2⟩
set_option maxRecDepth 100000 in
theorem ihs_of_trod {H : Type} {enc : TypeId × Value → H} {W : World} {n : Nat} {v : Value} {x : DataW H × List MemPlace} (h : DataW.trod enc Tryz.prog W 0 (fun _ => true) true n 24 [v] = some x) : ∃ l, IhsAt W v l ∧ l.length ≤ maxLen ∧ ∀ r ∈ l, IhFit r := by
 have hcl : Tryz.prog.cellsOf 36 = 2 := by kernel_rfl
 have hcm : Tryz.prog.cellsOf 49 = 1 := by kernel_rfl
 have hcn : Tryz.prog.cellsOf 48 = 1 := by kernel_rfl
 obtain ⟨l, a, c, hv, h1, h2, h3, h4⟩ := rows_of_trod ihC 5 (fun _ => rfl) (by decide) Tryz.underlying24 Tryz.underlying51 (by kernel_rfl) (fun r => IhIn W r ∧ IhFit r) (fun es n hlen hfs => by
  match es, hlen with
  | [e0, e1, e2, e3, e4], _ =>
   obtain ⟨y0, t0⟩ := hfs 0 _ rfl
   obtain ⟨y1, t1⟩ := hfs 1 _ rfl
   obtain ⟨y2, t2⟩ := hfs 2 _ rfl
   obtain ⟨y3, t3⟩ := hfs 3 _ rfl
   have t0' : DataW.trod enc Tryz.prog W 0 (fun _ => true) true n 48 [e0] = some y0 := by simpa [hcn] using t0
   have t1' : DataW.trod enc Tryz.prog W 0 (fun _ => true) true n 36 [e1, e2] = some y1 := by simpa [hcl] using t1
   have t2' : DataW.trod enc Tryz.prog W 0 (fun _ => true) true n 49 [e3] = some y2 := by simpa [hcm] using t2
   have t3' : DataW.trod enc Tryz.prog W 0 (fun _ => true) true n 49 [e4] = some y3 := by simpa [hcm] using t3
   obtain ⟨bs, b1, b2⟩ := strsG_of_trod t0'
   obtain ⟨l, c, r1, r2, hc⟩ := lab_of_trod t1'
   obtain ⟨fs, f1, f2, f3⟩ := mtsG_of_trod t2'
   obtain ⟨ms, m1, m2, m3⟩ := mtsG_of_trod t3'
   subst r1 r2
   exact ⟨⟨bs, l, c, fs, ms, e0, e3, e4⟩, rfl, ⟨b1, f1, m1⟩, ⟨b2, hc, f3, m3, f2, m2⟩⟩) h
 exact ⟨l, ⟨h3, fun r hr => (h4 r hr).1⟩, Nat.le_trans h1 h2, fun r hr => (h4 r hr).2⟩
def ArgPolD (w : World) (v : Value) (x : PV) (p : PD) : Prop := v = x.v ∧ PolAt w x p ∧ PolFitD p
theorem polD_of_trod {H : Type} {enc : TypeId × Value → H} {W : World} {n : Nat} {e0 e1 e2 e3 e4 e5 : Value} {x : DataW H × List MemPlace} (h : DataW.trod enc Tryz.prog W 0 (fun _ => true) true n 26 [e0, e1, e2, e3, e4, e5] = some x) : ∃ x p, ArgPolD W (.agg #[e0, e1, e2, e3, e4, e5]) x p := by
 have hcn : Tryz.prog.cellsOf 22 = 1 := by kernel_rfl
 have hcr : Tryz.prog.cellsOf 23 = 1 := by kernel_rfl
 have hci : Tryz.prog.cellsOf 24 = 1 := by kernel_rfl
 obtain ⟨ys, n', hn', hy, hlen, hyl, hf⟩ := DataW.trod_struct Tryz.underlying26 h
 have t0 := hf 0 _ rfl
 have t1 := hf 1 _ rfl
 have t2 := hf 2 _ rfl
 have t3 := hf 3 _ rfl
 have t4 := hf 4 _ rfl
 have t5 := hf 5 _ rfl
 match ys, hyl with
 | [y0, y1, y2, y3, y4, y5], _ =>
  have t0' : DataW.trod enc Tryz.prog W 0 (fun _ => true) true n' 22 [e0] = some y0 := by simpa [hcn] using t0
  have t1' : DataW.trod enc Tryz.prog W 0 (fun _ => true) true n' 22 [e1] = some y1 := by simpa [hcn] using t1
  have t2' : DataW.trod enc Tryz.prog W 0 (fun _ => true) true n' 22 [e2] = some y2 := by simpa [hcn] using t2
  have t3' : DataW.trod enc Tryz.prog W 0 (fun _ => true) true n' 22 [e3] = some y3 := by simpa [hcn] using t3
  have t4' : DataW.trod enc Tryz.prog W 0 (fun _ => true) true n' 23 [e4] = some y4 := by simpa [hcr] using t4
  have t5' : DataW.trod enc Tryz.prog W 0 (fun _ => true) true n' 24 [e5] = some y5 := by simpa [hci] using t5
  obtain ⟨l0, a0, b0⟩ := nmdsG_of_trod t0'
  obtain ⟨l1, a1, b1⟩ := nmdsG_of_trod t1'
  obtain ⟨l2, a2, b2⟩ := nmdsG_of_trod t2'
  obtain ⟨l3, a3, b3⟩ := nmdsG_of_trod t3'
  obtain ⟨l4, a4, b4, c4⟩ := rts_of_trod t4'
  obtain ⟨l5, a5, b5, c5⟩ := ihs_of_trod t5'
  exact ⟨⟨e0, e1, e2, e3, e4, e5⟩, ⟨l0, l1, l2, l3, l4, l5⟩, rfl, ⟨a0, a1, a2, a3, a4, a5⟩, ⟨b0, b1, b2, b3, b4, c4, b5, c5⟩⟩
def ArgLabs2 (v : Value) (x : (Int × Nat) × (Int × Nat)) : Prop := v = .agg #[.int .i64 x.1.1, .int .u32 x.1.2, .int .i64 x.2.1, .int .u32 x.2.2] ∧ x.1.2 < 4294967296 ∧ x.2.2 < 4294967296
set_option maxRecDepth 100000 in
theorem labs2_of_arg {H : Type} {enc : TypeId × Value → H} {W : World} {base : Nat} {v : Value} {d : DataW H} {p : List MemPlace} (hval : Value.okWide Tryz.prog W .any base 64 v) (h : DataW.Trod enc Tryz.prog W 0 (fun _ => true) true 64 v d p) : ∃ x, ArgLabs2 v x := by
 obtain ⟨cs, rfl, hsz, _⟩ : ∃ cs, v = .agg cs ∧ cs.size = Tryz.prog.cellsOf 64 ∧ Row.okWide Tryz.prog W .any base 64 cs := by
  simpa [Value.okWide, Tryz.underlying64] using hval
 rw [show Tryz.prog.cellsOf 64 = 4 by kernel_rfl] at hsz
 have hcl : Tryz.prog.cellsOf 36 = 2 := by kernel_rfl
 obtain ⟨fuel, hf⟩ := h
 obtain ⟨l⟩ := cs
 match l, hsz with
 | [c0, c1, c2, c3], _ =>
  obtain ⟨xs, m, _, _, _, hxl, hx⟩ := DataW.trod_array Tryz.underlying64 hf
  rw [hcl] at hx
  match xs, hxl with
  | [y0, y1], _ =>
   obtain ⟨l0, k0, rfl, rfl, h0⟩ := lab_of_trod (hx 0 (by decide))
   obtain ⟨l1, k1, rfl, rfl, h1⟩ := lab_of_trod (hx 1 (by decide))
   exact ⟨((l0, k0), (l1, k1)), rfl, h0, h1⟩
end Go.Proofs.YtipnhpfpppblhaaGreat
/- lychgateref08.Cut on a policy that is known whole. -/
namespace Go.Proofs.YtipnhpfpppblhaaGreat
open Go.RowKit Go.WideShapes Go.ChangeShapes Go.Deep
def PD.cut (p : PD) : PD := ⟨p.so.take 14, p.re.take 14, p.pe.take 14, p.ra.take 14, p.ro.take 14, p.ih.take 14⟩
theorem nmdG_take {w : World} {a : Option Addr} {c : Nat} {l : List Nmd} (h : NmdsAt w (.slice a l.length c) l) : NmdsAt w (.slice a (l.take 14).length c) (l.take 14) := by
 unfold NmdsAt at *
 rw [nmdCells_eq] at *
 have := rdG_take (f := nmdC) (fun _ => rfl) h 14
 rwa [show min l.length 14 = (l.take 14).length by rw [List.length_take, Nat.min_comm]] at this
theorem wide_take {l : List Nmd} (h : NmdWide l) : NmdWide (l.take 14) := ⟨by rw [List.length_take]; have := h.1; omega, fun x hx => h.2.1 x (List.mem_of_mem_take hx), fun x hx => h.2.2 x (List.mem_of_mem_take hx)⟩
theorem cutD_fit {p : PD} (h : PolFitD p) : PolFitD p.cut :=
 ⟨wide_take h.h0, wide_take h.h1, wide_take h.h2, wide_take h.h3, (by show (p.ro.take 14).length ≤ _; rw [List.length_take]; have := h.l4; omega), fun r hr => h.h4 r (List.mem_of_mem_take hr), (by show (p.ih.take 14).length ≤ _; rw [List.length_take]; have := h.l5; omega), fun r hr => h.h5 r (List.mem_of_mem_take hr)⟩
structure PA where
 a0 : Option Addr
 c0 : Nat
 a1 : Option Addr
 c1 : Nat
 a2 : Option Addr
 c2 : Nat
 a3 : Option Addr
 c3 : Nat
 a4 : Option Addr
 c4 : Nat
 a5 : Option Addr
 c5 : Nat
abbrev PA.pv (x : PA) (p : PD) : PV := ⟨.slice x.a0 p.so.length x.c0, .slice x.a1 p.re.length x.c1, .slice x.a2 p.pe.length x.c2, .slice x.a3 p.ra.length x.c3, .slice x.a4 p.ro.length x.c4, .slice x.a5 p.ih.length x.c5⟩
theorem pol_shape {w : World} {v : PV} {p : PD} (h : PolAt w v p) : ∃ x : PA, v = x.pv p ∧ p.so.length ≤ x.c0 ∧ p.re.length ≤ x.c1 ∧ p.pe.length ≤ x.c2 ∧ p.ra.length ≤ x.c3 ∧ p.ro.length ≤ x.c4 ∧ p.ih.length ≤ x.c5 := by
 obtain ⟨v0, v1, v2, v3, v4, v5⟩ := v
 obtain ⟨a0, c0, e0, l0, _⟩ := RdAt.shape h.h0
 obtain ⟨a1, c1, e1, l1, _⟩ := RdAt.shape h.h1
 obtain ⟨a2, c2, e2, l2, _⟩ := RdAt.shape h.h2
 obtain ⟨a3, c3, e3, l3, _⟩ := RdAt.shape h.h3
 obtain ⟨a4, c4, e4, l4, _⟩ := RdAt.shape h.h4.1
 obtain ⟨a5, c5, e5, l5, _⟩ := RdAt.shape h.h5.1
 dsimp only at e0 e1 e2 e3 e4 e5
 subst e0 e1 e2 e3 e4 e5
 exact ⟨⟨a0, c0, a1, c1, a2, c2, a3, c3, a4, c4, a5, c5⟩, rfl, l0, l1, l2, l3, l4, l5⟩
theorem pol_cut {w : World} {x : PA} {p : PD} (h : PolAt w (x.pv p) p) : PolAt w (x.pv p.cut) p.cut := by
 refine ⟨nmdG_take h.h0, nmdG_take h.h1, nmdG_take h.h2, nmdG_take h.h3, ⟨?_, fun r hr => h.h4.2 r (List.mem_of_mem_take hr)⟩, ⟨?_, fun r hr => h.h5.2 r (List.mem_of_mem_take hr)⟩⟩
 ·have := rdG_take (f := rtC) rtC_len h.h4.1 14
  rwa [show min p.ro.length 14 = (p.ro.take 14).length by rw [List.length_take, Nat.min_comm]] at this
 ·have := rdG_take (f := ihC) ihC_len h.h5.1 14
  rwa [show min p.ih.length 14 = (p.ih.take 14).length by rw [List.length_take, Nat.min_comm]] at this
/-! ### capacities -/
def PCap (x : PV) : Prop := (∃ a n c, x.v0 = .slice a n c ∧ c ≤ maxLen) ∧ (∃ a n c, x.v1 = .slice a n c ∧ c ≤ maxLen) ∧ (∃ a n c, x.v2 = .slice a n c ∧ c ≤ maxLen) ∧ (∃ a n c, x.v3 = .slice a n c ∧ c ≤ maxLen) ∧ (∃ a n c, x.v4 = .slice a n c ∧ c ≤ maxLen) ∧ (∃ a n c, x.v5 = .slice a n c ∧ c ≤ maxLen)
section
variable {H : Type} {enc : TypeId × Value → H} {P : Program} {w : World} {base : Nat} {spare : Nat → Bool} {held : Bool}
theorem slice_of_trodC {t e : TypeId} {fuel : Nat} {v : Value} {x : DataW H × List MemPlace} (ht : P.underlying t = some (.slice e)) (h : DataW.trod enc P w base spare held fuel t [v] = some x) :
  ∃ a n c, v = .slice a n c ∧ c ≤ maxLen := by
 rcases open_slice ht h with ⟨h0, _⟩ | ⟨a, len, cap, m, n, D, Pl, hcs, hb, hl, hm, hmm, hx, hi⟩
 ·cases h0; exact ⟨none, 0, 0, rfl, Nat.zero_le _⟩
 ·cases hcs; exact ⟨some a, len, cap, rfl, hm⟩
end
def ArgPolC (w : World) (v : Value) (x : PV) (p : PD) : Prop := ArgPolD w v x p ∧ PCap x
set_option maxRecDepth 100000 in
theorem polC_of_arg {H : Type} {enc : TypeId × Value → H} {W : World} {base : Nat} {v : Value} {d : DataW H} {p : List MemPlace} (hval : Value.okWide Tryz.prog W .any base 26 v) (h : DataW.Trod enc Tryz.prog W 0 (fun _ => true) true 26 v d p) : ∃ x y, ArgPolC W v x y := by
 have hcn : Tryz.prog.cellsOf 22 = 1 := by kernel_rfl
 have hcr : Tryz.prog.cellsOf 23 = 1 := by kernel_rfl
 have hci : Tryz.prog.cellsOf 24 = 1 := by kernel_rfl
 obtain ⟨cs, rfl, hsz, _⟩ : ∃ cs, v = .agg cs ∧ cs.size = Tryz.prog.cellsOf 26 ∧ Row.okWide Tryz.prog W .any base 26 cs := by
  simpa [Value.okWide, Tryz.underlying26] using hval
 rw [show Tryz.prog.cellsOf 26 = 6 by kernel_rfl] at hsz
 obtain ⟨fuel, hf⟩ := h
 obtain ⟨l⟩ := cs
 match l, hsz with
 | [e0, e1, e2, e3, e4, e5], _ =>
  obtain ⟨x, y, hxy⟩ := polD_of_trod hf
  obtain ⟨ys, n', hn', hy, hlen, hyl, hg⟩ := DataW.trod_struct Tryz.underlying26 hf
  have t0 := hg 0 _ rfl
  have t1 := hg 1 _ rfl
  have t2 := hg 2 _ rfl
  have t3 := hg 3 _ rfl
  have t4 := hg 4 _ rfl
  have t5 := hg 5 _ rfl
  match ys, hyl with
  | [y0, y1, y2, y3, y4, y5], _ =>
   have s0 := slice_of_trodC Tryz.underlying22 (show DataW.trod enc Tryz.prog W 0 (fun _ => true) true n' 22 [e0] = some y0 by simpa [hcn, Value.cells] using t0)
   have s1 := slice_of_trodC Tryz.underlying22 (show DataW.trod enc Tryz.prog W 0 (fun _ => true) true n' 22 [e1] = some y1 by simpa [hcn, Value.cells] using t1)
   have s2 := slice_of_trodC Tryz.underlying22 (show DataW.trod enc Tryz.prog W 0 (fun _ => true) true n' 22 [e2] = some y2 by simpa [hcn, Value.cells] using t2)
   have s3 := slice_of_trodC Tryz.underlying22 (show DataW.trod enc Tryz.prog W 0 (fun _ => true) true n' 22 [e3] = some y3 by simpa [hcn, Value.cells] using t3)
   have s4 := slice_of_trodC Tryz.underlying23 (show DataW.trod enc Tryz.prog W 0 (fun _ => true) true n' 23 [e4] = some y4 by simpa [hcr, Value.cells] using t4)
   have s5 := slice_of_trodC Tryz.underlying24 (show DataW.trod enc Tryz.prog W 0 (fun _ => true) true n' 24 [e5] = some y5 by simpa [hci, Value.cells] using t5)
   refine ⟨x, y, hxy, ?_⟩
   have he := hxy.1
   obtain ⟨v0, v1, v2, v3, v4, v5⟩ := x
   simp only [PV.v, Value.agg.injEq, Array.mk.injEq, List.cons.injEq, and_true] at he
   obtain ⟨rfl, rfl, rfl, rfl, rfl, rfl⟩ := he
   exact ⟨s0, s1, s2, s3, s4, s5⟩
theorem rcutD_any (x : PA) (p : PD) (w : World) (h : PolAt w (x.pv p) p) (hc : PCap (x.pv p)) :
  Calls Tryz.prog 10 #[(x.pv p).v, .int .i64 14] w fun e w' => e = .returned (x.pv p.cut).v ∧ Below w.heap.size w w' := by
 have cap : ∀ {a : Option Addr} {n c : Nat}, (∃ a' n' c', Value.slice a n c = .slice a' n' c' ∧ c' ≤ maxLen) → c ≤ maxLen := by
  rintro a n c ⟨a', n', c', h1, h2⟩
  simp only [Value.slice.injEq] at h1
  rw [h1.2.2]; exact h2
 have le : ∀ {v : Value} {a : Option Addr} {n c k : Nat} {xs : List Value}, v = .slice a n c → RdAt w v n k xs → n ≤ c := by
  rintro v a n c k xs rfl h1
  obtain ⟨a', c', h2, h3, _⟩ := RdAt.shape h1
  simp only [Value.slice.injEq] at h2
  rw [h2.2.2]; exact h3
 obtain ⟨q0, q1, q2, q3, q4, q5⟩ := hc
 have hh := rcut_any x.a0 x.a1 x.a2 x.a3 x.a4 x.a5 p.so.length p.re.length p.pe.length p.ra.length p.ro.length p.ih.length x.c0 x.c1 x.c2 x.c3 x.c4 x.c5 w ⟨le rfl h.h0, cap q0⟩ ⟨le rfl h.h1, cap q1⟩ ⟨le rfl h.h2, cap q2⟩ ⟨le rfl h.h3, cap q3⟩ ⟨le rfl h.h4.1, cap q4⟩ ⟨le rfl h.h5.1, cap q5⟩
 refine hh.mono ?_
 rintro e w' ⟨rfl, hb⟩
 refine ⟨?_, hb⟩
 unfold PD.cut
 dsimp only [PA.pv, PV.v]
 simp only [List.length_take]
 rw [Nat.min_comm p.so.length, Nat.min_comm p.re.length, Nat.min_comm p.pe.length, Nat.min_comm p.ra.length, Nat.min_comm p.ro.length, Nat.min_comm p.ih.length]
end Go.Proofs.YtipnhpfpppblhaaGreat
/- inhibit.Quiet: a contract. -/
namespace Go.Proofs.YtipnhpfpppblhaaGreat
open Go.RowKit Go.Maps
def idxTo {α : Type} (f : α → Bool) (l : List α) (k : Nat) : List Int := ((List.range k).filter fun i => (l[i]?.map f).getD false).map fun (i : Nat) => (i : Int)
def idxF {α : Type} (f : α → Bool) (l : List α) : List Int := idxTo f l l.length
theorem idxTo_step {α : Type} (f : α → Bool) (l : List α) {k : Nat} (h : k < l.length) : idxTo f l (k + 1) = idxTo f l k ++ (if f l[k] then [(k : Int)] else []) := by
 unfold idxTo
 rw [List.range_succ, List.filter_append, List.map_append]
 congr 1
 rw [List.filter_cons, List.getElem?_eq_getElem h]
 cases hf : f l[k] <;> simp [hf]
theorem idxTo_len {α : Type} (f : α → Bool) (l : List α) (k : Nat) : (idxTo f l k).length ≤ k := by
 unfold idxTo
 rw [List.length_map]
 exact Nat.le_trans (List.length_filter_le _ _) (by simp)
noncomputable def ruleQ (ra : List Nmd) (l : List (Al × Value)) (a : Al) (t : Int × Nat) (now : Int) (x : PIh) : Bool := flowsL x.lv x.c t.1 t.2 && byM x l (idA a) (cutAl ra a t).fl now
noncomputable def quietX (p : PD) (l : List (Al × Value)) (a : Al) (t : Int × Nat) (now : Int) : List Int := if rightA a && decide (checkP p = 0) && cutOk p.ra a.fl (a.lv, a.c) t then idxF (ruleQ p.ra l a t now) p.ih else []
noncomputable def quietK (p : PD) (l : List (Al × Value)) (k : Int) (t : Int × Nat) (now : Int) : List Int := if 0 ≤ k then (match l[k.toNat]? with | some a => quietX p l a.1 t now | none => []) else []
theorem quietK_neg {p : PD} {l : List (Al × Value)} {k : Int} {t : Int × Nat} {now : Int} (h : k < 0) : quietK p l k t now = [] := by unfold quietK; rw [if_neg (by omega)]
theorem quietK_far {p : PD} {l : List (Al × Value)} {k : Int} {t : Int × Nat} {now : Int} (h : (l.length : Int) ≤ k) : quietK p l k t now = [] := by unfold quietK; rw [if_pos (by omega), List.getElem?_eq_none (by omega)]
theorem quietK_at {p : PD} {l : List (Al × Value)} {j : Nat} {t : Int × Nat} {now : Int} (h : j < l.length) : quietK p l (j : Int) t now = quietX p l l[j].1 t now := by unfold quietK; rw [if_pos (by omega), Int.toNat_natCast, List.getElem?_eq_getElem h]
theorem check_zero {p : PD} (h : checkP p = 0) : p.ih.length ≤ 12 ∧ ∀ x ∈ p.ih, badIh x = false := by
 unfold checkP at h
 split at h
 ·cases h
 ·rename_i hl
  split at h
  ·cases h
  ·split at h
   ·cases h
   ·split at h
    ·cases h
    ·rename_i hi
     refine ⟨(longs_no (by simpa using hl)).2, fun x hx => ?_⟩
     rw [Bool.not_eq_true, List.any_eq_false] at hi
     simpa using hi x hx
structure QPt (w : World) (v0 v1 v2 v3 v4 v5 : Value) (tl : Int) (tc : Nat) (W : World) : Prop where
 p : C6 w.heap.size v0 v1 v2 v3 v4 v5 W
 t0 : W.cell? ⟨w.heap.size + 1, 0, none⟩ = some (.int .i64 tl)
 t1 : W.cell? ⟨w.heap.size + 1, 1, none⟩ = some (.int .u32 tc)
 ge : w.heap.size + 1 < W.heap.size
 below : Below w.heap.size w W
theorem QPt.later {w W W' : World} {v0 v1 v2 v3 v4 v5 : Value} {tl : Int} {tc : Nat} (h : QPt w v0 v1 v2 v3 v4 v5 tl tc W) (hb : Below W.heap.size W W') : QPt w v0 v1 v2 v3 v4 v5 tl tc W' := by
 have h1 := h.ge
 exact ⟨h.p.later hb (by omega), keep_cell h.t0 hb h1, keep_cell h.t1 hb h1, Nat.lt_of_lt_of_le h1 hb.size, h.below.trans (hb.mono h.below.size)⟩
theorem qpt_new (w : World) (v0 v1 v2 v3 v4 v5 : Value) (tl : Int) (tc : Nat) (s t : TypeId) : QPt w v0 v1 v2 v3 v4 v5 tl tc ((w.alloc (.cells #[v0, v1, v2, v3, v4, v5] s)).alloc (.cells #[.int .i64 tl, .int .u32 tc] t)) := by
 obtain ⟨W1, h1⟩ : ∃ z, w.alloc (.cells #[v0, v1, v2, v3, v4, v5] s) = z := ⟨_, rfl⟩
 obtain ⟨W2, h2⟩ : ∃ z, W1.alloc (.cells #[.int .i64 tl, .int .u32 tc] t) = z := ⟨_, rfl⟩
 rw [h1, h2]
 have s1 : W1.heap.size = w.heap.size + 1 := by rw [← h1, World.size_alloc]
 have b1 : Below w.heap.size w W1 := by rw [← h1]; exact alloc_below _ _
 have b2 : Below W1.heap.size W1 W2 := by rw [← h2]; exact alloc_below _ _
 have hc0 : W2.cell? ⟨W1.heap.size, 0, none⟩ = some (.int .i64 tl) := by rw [← h2]; exact World.cell?_alloc_at _ _ _ _ rfl
 have hc1 : W2.cell? ⟨W1.heap.size, 1, none⟩ = some (.int .u32 tc) := by rw [← h2]; exact World.cell?_alloc_at _ _ _ _ rfl
 have x6 : C6 w.heap.size v0 v1 v2 v3 v4 v5 W1 := by rw [← h1]; exact box6n w _ _ _ _ _ _ _
 refine ⟨x6.later b2 (by omega), by rw [← s1]; exact hc0, by rw [← s1]; exact hc1, by rw [← h2, World.size_alloc]; omega, b1.trans (b2.mono (by omega))⟩
theorem cutAl_in {rs : List Nmd} {x m : Al} {t : Int × Nat} (h : cutAl rs x t = m) : (∀ f ∈ m.fl, f ∈ x.fl) ∧ m.fl.length ≤ x.fl.length := by
 rw [← h]
 unfold cutAl
 split
 ·exact ⟨fun f hf => (List.mem_filter.1 hf).1, vis_le _ _ _ _⟩
 ·exact ⟨fun f hf => (by cases hf), Nat.zero_le _⟩
theorem infoInt13 : (Tryz.prog.info? 3).map (fun i => (i.zero, i.size, i.bytes)) = some (some (.int .i64 0), 1, 8) := by kernel_rfl
set_option maxHeartbeats 6400000 in
set_option maxRecDepth 100000 in
theorem iquiet_any (v : PV) (p : PD) (l : List (Al × Value)) (lv : Value) (k : Int) (tl : Int) (tc : Nat) (now : Int) (w : World) (hp : PolAt w v p) (hpf : PolFitD p) (hl : AlsAt w lv l) (hlen : l.length ≤ maxLen) :
  Calls Tryz.prog 13 #[v.v, lv, .int .i64 k, Lab tl tc, .int .i64 now] w fun e w' => ∃ r, e = .returned r ∧ w'.ownsRow w.heap.size 3 1 r (quietK p l k (tl, tc) now).length ((quietK p l k (tl, tc) now).map I) ∧ Below w.heap.size w w' := by
 have kk := fun W (h : Below w.heap.size w W) => pcheck_any v p W (hp.later h) hpf
 have KBY := Lib.hid (fun (x : PIh) (hx : x ∈ p.ih) (hok : badIh x = false) (id : Int) (c : Al) (fa : Option Addr) (fc : Nat) (W : World) (h : Below w.heap.size w W) (hc : FldsAt W (.slice fa c.fl.length fc) c.fl) (hcf : FldsFit c.fl) (hcl : c.fl.length ≤ 8) => by_any x l id c lv fa fc now W ((hp.h5.2 x hx).later h) (hpf.h5 x hx) hok (hl.later h) hlen hc hcf (by omega))
 have KCHK := Lib.hid (check_zero (p := p))
 obtain ⟨v0, v1, v2, v3, v4, v5⟩ := v
 obtain ⟨h0, h1, h2, h3, ⟨h4, _⟩, h5, h5b⟩ := hp
 have KFI := Lib.hid hpf.h5
 dsimp only at h0 h1 h2 h3 h4 h5 kk
 obtain ⟨a0, c0, rfl, _, _⟩ := RdAt.shape h0
 obtain ⟨a1, c1, rfl, _, _⟩ := RdAt.shape h1
 obtain ⟨a2, c2, rfl, _, _⟩ := RdAt.shape h2
 obtain ⟨a3, c3, rfl, _, _⟩ := RdAt.shape h3
 obtain ⟨a4, c4, rfl, _, _⟩ := RdAt.shape h4
 obtain ⟨a5, c5, rfl, _, hir⟩ := RdAt.shape h5
 have KIR := Lib.hid hir
 have KIN := Lib.hid h5b
 obtain ⟨i0, hi, hz0, hz1, hz2⟩ := info_parts infoInt13
 clear hir h5b
 obtain ⟨la, lc, rfl, hlc, hlr⟩ := RdAt.shape hl.row
 have HLR := Lib.hid hlr
 have HFL := Lib.hid hl.fld
 have KCUT : Hid (∀ (x m : Al) (ok : Bool) (fa : Option Addr) (fc : Nat) (W : World), Below w.heap.size w W → FldsAt W (.slice fa x.fl.length fc) x.fl → x.fl.length ≤ 8 → cutOk p.ra x.fl (x.lv, x.c) (tl, tc) = ok → cutAl p.ra x (tl, tc) = m →
   Calls Tryz.prog 20 #[.agg #[.slice a0 p.so.length c0, .slice a1 p.re.length c1, .slice a2 p.pe.length c2, .slice a3 p.ra.length c3, .slice a4 p.ro.length c4, .slice a5 p.ih.length c5], .agg #[.string x.src, .slice fa x.fl.length fc, .int .i64 x.lv, .int .u32 x.c, .int .i64 x.fr, .int .i64 x.til], Lab tl tc] W fun e w' =>
    ∃ pa pc, e = .returned (.tuple #[.agg #[.string m.src, .slice pa m.fl.length pc, .int .i64 m.lv, .int .u32 m.c, .int .i64 m.fr, .int .i64 m.til], .bool ok]) ∧ FldsAt w' (.slice pa m.fl.length pc) m.fl ∧ (∀ q, (Value.slice pa m.fl.length pc).ownBlock = some q → W.heap.size ≤ q) ∧ Below W.heap.size W w') :=
  Lib.hid (fun x m ok fa fc W hW hF hx hok hm => cut_l (a0, p.so.length, c0) (a1, p.re.length, c1) (a2, p.pe.length, c2) (a4, p.ro.length, c4) (a5, p.ih.length, c5) p.ra (.slice a3 p.ra.length c3) x (.slice fa x.fl.length fc) (tl, tc) m ok W (h3.later hW) hpf.h3.1 hF (by omega) hok hm)
 have KK := Lib.hid kk
 obtain ⟨W0, hW0⟩ : ∃ z, (w.alloc (.cells #[.slice a0 p.so.length c0, .slice a1 p.re.length c1, .slice a2 p.pe.length c2, .slice a3 p.ra.length c3, .slice a4 p.ro.length c4, .slice a5 p.ih.length c5] 26)).alloc (.cells #[.int .i64 tl, .int .u32 tc] 36) = z := ⟨_, rfl⟩
 have HS0 : Hid (QPt w (.slice a0 p.so.length c0) (.slice a1 p.re.length c1) (.slice a2 p.pe.length c2) (.slice a3 p.ra.length c3) (.slice a4 p.ro.length c4) (.slice a5 p.ih.length c5) tl tc W0) := Lib.hid (by rw [← hW0]; exact qpt_new w _ _ _ _ _ _ _ _ _ _)
 have HW0 := Lib.hid hW0
 unfold maxLen at hlen
 clear kk h0 h1 h2 h3 h4 h5 hW0 hlr
 go_enter Tryz.func13, Tryz.ntmps13
 go_upto_region 1 with fail
 rw [HW0.out]
 clear HW0
 by_cases hk0 : k < 0
 ·have HQ : Hid (quietK p l k (tl, tc) now = []) := Lib.hid (quietK_neg hk0)
  go_wp2
  go_ret
  exact ⟨_, rfl, by rw [HQ.out]; exact World.ownsRow_nil _ _ _ _, HS0.out.below⟩
 by_cases hk1 : (l.length : Int) ≤ k
 ·have HQ : Hid (quietK p l k (tl, tc) now = []) := Lib.hid (quietK_far hk1)
  go_wp2
  go_ret
  exact ⟨_, rfl, by rw [HQ.out]; exact World.ownsRow_nil _ _ _ _, HS0.out.below⟩
 obtain ⟨j, rfl⟩ : ∃ j : Nat, k = (j : Int) := ⟨k.toNat, by omega⟩
 have hj : j < l.length := by omega
 have HQ : Hid (quietK p l (j : Int) (tl, tc) now = quietX p l l[j].1 (tl, tc) now) := Lib.hid (quietK_at hj)
 obtain ⟨hfk, hfit⟩ := HFL.out _ (List.getElem_mem hj)
 have hQX : quietX p l l[j].1 (tl, tc) now = if rightA l[j].1 && decide (checkP p = 0) && cutOk p.ra l[j].1.fl (l[j].1.lv, l[j].1.c) (tl, tc) then idxF (ruleQ p.ra l l[j].1 (tl, tc) now) p.ih else [] := rfl
 rw [hQX] at HQ
 clear hQX
 obtain ⟨b, o, rfl, hbl, hcell⟩ := HLR.out (by omega)
 have hat := alCells_at l j hj
 have e0 := hcell _ _ (hat 0 _ rfl)
 have e1 := hcell _ _ (hat 1 _ rfl)
 have e2 := hcell _ _ (hat 2 _ rfl)
 have e3 := hcell _ _ (hat 3 _ rfl)
 have e4 := hcell _ _ (hat 4 _ rfl)
 have e5 := hcell _ _ (hat 5 _ rfl)
 rw [Nat.add_zero] at e0
 rw [← Nat.add_assoc] at e1 e2 e3 e4 e5
 have HX : Hid (l[j] = l[j]) := rfl
 generalize l[j] = y at *
 obtain ⟨⟨src, fl, alv, ac, fr, til⟩, fv⟩ := y
 dsimp only at *
 obtain ⟨fa, fc, rfl, hfc, _⟩ := RdAt.shape hfk
 have HE := Lib.hid (And.intro e0 (And.intro e1 (And.intro e2 (And.intro e3 (And.intro e4 e5)))))
 have HFK := Lib.hid hfk
 have HFIT := Lib.hid hfit
 have hk2 : (0 : Int) ≤ (j : Int) := by omega
 have hk3 : (j : Int) < (l.length : Int) := by omega
 have KEEP : Hid (∀ {q : Nat} {u : Value} {V : World}, w.cell? ⟨b, q, none⟩ = some u → Below w.heap.size w V → V.cell? ⟨b, q, none⟩ = some u) := Lib.hid (fun h hV => keep_cell h hV hbl)
 obtain ⟨p0, p1, p2, p3, p4, p5⟩ := HE.out
 have p0 := KEEP.out p0 HS0.out.below
 have p1 := KEEP.out p1 HS0.out.below
 have p2 := KEEP.out p2 HS0.out.below
 have p3 := KEEP.out p3 HS0.out.below
 have p4 := KEEP.out p4 HS0.out.below
 have p5 := KEEP.out p5 HS0.out.below
 have kr := aright_any src fl alv ac fr til _ W0 hfit.src (hfk.later HS0.out.below) hfit.fl hfit.len
 have hR : rightA ⟨src, fl, alv, ac, fr, til⟩ = (whoA src fl alv && beginsA fr && endsA fr til) := rfl
 rw [← hR] at kr
 have HR8 : Hid (rightA ⟨src, fl, alv, ac, fr, til⟩ = true → fl.length ≤ 8 ∧ (idB src fl).length ≤ 4000000) := Lib.hid (fun h => ⟨rightA_len h, idB_bound (rightA_who h)⟩)
 clear hR e0 e1 e2 e3 e4 e5 hcell hat hfk hfit HX
 cases hra : rightA ⟨src, fl, alv, ac, fr, til⟩
 ·rw [hra] at kr HQ
  have HN : Hid (quietK p l (j : Int) (tl, tc) now = []) := Lib.hid (by rw [HQ.out]; rfl)
  clear hra HR8
  go_wp2_with fail
  refine kr.mono ?_
  rintro e w1 ⟨rfl, hb1⟩
  have HB := Lib.hid (HS0.out.below.trans (hb1.mono HS0.out.below.size))
  clear kr hb1 p0 p1 p2 p3 p4 p5
  go_wp2
  go_ret
  exact ⟨_, rfl, by rw [HN.out]; exact World.ownsRow_nil _ _ _ _, HB.out⟩
 rw [hra] at kr HQ
 obtain ⟨hr8, hid8⟩ := HR8.out hra
 have HID8 := Lib.hid hid8
 clear HR8 hid8
 go_wp2_with fail
 refine kr.mono ?_
 rintro e w1 ⟨rfl, hb1⟩
 have HS1 := Lib.hid (HS0.out.later hb1)
 clear kr hb1 p0 p1 p2 p3 p4 p5 HS0
 obtain ⟨q0, q1, q2, q3, q4, q5⟩ := HS1.out.p
 have kk := KK.out w1 HS1.out.below
 cases hck : decide (checkP p = 0)
 ·have hne : checkP p ≠ 0 := of_decide_eq_false hck
  rw [hck] at HQ
  have HN : Hid (quietK p l (j : Int) (tl, tc) now = []) := Lib.hid (by rw [HQ.out]; rfl)
  generalize checkP p = ck at *
  go_wp2_with fail
  refine kk.mono ?_
  rintro e w2 ⟨rfl, hb2⟩
  have HB := Lib.hid (HS1.out.below.trans (hb2.mono HS1.out.below.size))
  clear kk hb2 q0 q1 q2 q3 q4 q5
  go_wp2
  go_ret
  exact ⟨_, rfl, by rw [HN.out]; exact World.ownsRow_nil _ _ _ _, HB.out⟩
 have hck0 : checkP p = 0 := of_decide_eq_true hck
 rw [hck] at HQ
 rw [hck0] at kk
 have HCK := Lib.hid (KCHK.out hck0)
 clear hck hck0 KCHK
 go_wp2_with fail
 refine kk.mono ?_
 rintro e w2 ⟨rfl, hb2⟩
 have HS2 := Lib.hid (HS1.out.later hb2)
 clear kk hb2 q0 q1 q2 q3 q4 q5 HS1 KK
 go_upto_region 3 with fail
 obtain ⟨m, hm⟩ : ∃ m, cutAl p.ra ⟨src, fl, alv, ac, fr, til⟩ (tl, tc) = m := ⟨_, rfl⟩
 obtain ⟨ok, hok⟩ : ∃ z, cutOk p.ra fl (alv, ac) (tl, tc) = z := ⟨_, rfl⟩
 have hru : ∀ x, ruleQ p.ra l ⟨src, fl, alv, ac, fr, til⟩ (tl, tc) now x = (flowsL x.lv x.c tl tc && byM x l (shortL (idB src fl)) (cutAl p.ra ⟨src, fl, alv, ac, fr, til⟩ (tl, tc)).fl now) := fun x => rfl
 rw [hm] at hru
 have HIN := Lib.hid (cutAl_in hm)
 have CM0 := Lib.hid (fun W (h : Below w.heap.size w W) => KCUT.out ⟨src, fl, alv, ac, fr, til⟩ m ok fa fc W h (HFK.out.later h) hr8 hok hm)
 rw [hok] at HQ
 obtain ⟨us, uL, ql, qc, uf, ut⟩ := m
 dsimp only at CM0 HIN hru
 have HRU := Lib.hid hru
 generalize ruleQ p.ra l ⟨src, fl, alv, ac, fr, til⟩ (tl, tc) now = F at *
 have CM := Lib.hid (fun W (h : Below w2.heap.size w2 W) => CM0.out W (HS2.out.below.trans (h.mono HS2.out.below.size)))
 have hlq : w.heap.size < w2.heap.size := by have := HS2.out.ge; omega
 have hlt : w.heap.size + 1 < w2.heap.size := HS2.out.ge
 have hlb : b < w2.heap.size := by omega
 obtain ⟨p0, p1, p2, p3, p4, p5⟩ := HE.out
 have p0 := KEEP.out p0 HS2.out.below
 have p1 := KEEP.out p1 HS2.out.below
 have p2 := KEEP.out p2 HS2.out.below
 have p3 := KEEP.out p3 HS2.out.below
 have p4 := KEEP.out p4 HS2.out.below
 have p5 := KEEP.out p5 HS2.out.below
 obtain ⟨q0, q1, q2, q3, q4, q5⟩ := HS2.out.p
 have t0 := HS2.out.t0
 have t1 := HS2.out.t1
 clear hru hm hok KCUT CM0
 go_cut [11, 12] (fun s11 s12 wx => ∃ gu ua ud, s11 = .pointer (some ⟨gu, 0, none⟩) ∧ s12 = .bool ok ∧ C6 gu (.string us) (.slice ua uL.length ud) (.int .i64 ql) (.int .u32 qc) (.int .i64 uf) (.int .i64 ut) wx ∧ FldsAt wx (.slice ua uL.length ud) uL ∧ gu < wx.heap.size ∧ Below w2.heap.size w2 wx)
 case first =>
  refine wp_region_held_drew (S := (fun W => W.cell? ⟨w.heap.size, 0, none⟩ = some (.slice a0 p.so.length c0) ∧ W.cell? ⟨w.heap.size, 1, none⟩ = some (.slice a1 p.re.length c1) ∧ W.cell? ⟨w.heap.size, 2, none⟩ = some (.slice a2 p.pe.length c2) ∧ W.cell? ⟨w.heap.size, 3, none⟩ = some (.slice a3 p.ra.length c3) ∧ W.cell? ⟨w.heap.size, 4, none⟩ = some (.slice a4 p.ro.length c4) ∧ W.cell? ⟨w.heap.size, 5, none⟩ = some (.slice a5 p.ih.length c5) ∧ W.cell? ⟨b, o + j * 6, none⟩ = some (.string src) ∧ W.cell? ⟨b, o + j * 6 + 1, none⟩ = some (.slice fa fl.length fc) ∧ W.cell? ⟨b, o + j * 6 + 2, none⟩ = some (.int .i64 alv) ∧ W.cell? ⟨b, o + j * 6 + 3, none⟩ = some (.int .u32 ac) ∧ W.cell? ⟨b, o + j * 6 + 4, none⟩ = some (.int .i64 fr) ∧ W.cell? ⟨b, o + j * 6 + 5, none⟩ = some (.int .i64 til) ∧ W.cell? ⟨w.heap.size + 1, 0, none⟩ = some (.int .i64 tl) ∧ W.cell? ⟨w.heap.size + 1, 1, none⟩ = some (.int .u32 tc))) (by kernel_rfl) ⟨q0, q1, q2, q3, q4, q5, p0, p1, p2, p3, p4, p5, t0, t1⟩ (fun hHeld => ?_)
  have hd : Below w2.heap.size w2 w2.drew := (Below.refl _ _).drew
  generalize w2.drew = wd at *
  refine hT (i := 0) (v := ?_) rfl rfl hHeld ?_ ?_
  rotate_left
  ·intro wh hz; iterate 13 obtain ⟨_, hz⟩ := hz
   go_simp
   (try with_reducible rfl)
  simp only [Act.put, List.setIfInBounds_toArray, List.set_cons_zero, List.set_cons_succ]
  refine hT (i := 1) (v := ?_) rfl rfl hHeld ?_ ?_
  rotate_left
  ·intro wh hz; iterate 13 obtain ⟨_, hz⟩ := hz
   go_simp
   (try with_reducible rfl)
  simp only [Act.put, List.setIfInBounds_toArray, List.set_cons_zero, List.set_cons_succ]
  refine hT (i := 2) (v := ?_) rfl rfl hHeld ?_ ?_
  rotate_left
  ·intro wh hz; iterate 13 obtain ⟨_, hz⟩ := hz
   go_simp
   (try with_reducible rfl)
  simp only [Act.put, List.setIfInBounds_toArray, List.set_cons_zero, List.set_cons_succ]
  refine hT (i := 3) (v := ?_) rfl rfl hHeld ?_ ?_
  rotate_left
  ·intro wh hz; iterate 13 obtain ⟨_, hz⟩ := hz
   go_simp
   (try with_reducible rfl)
  simp only [Act.put, List.setIfInBounds_toArray, List.set_cons_zero, List.set_cons_succ]
  refine hT (i := 4) (v := ?_) rfl rfl hHeld ?_ ?_
  rotate_left
  ·intro wh hz; iterate 13 obtain ⟨_, hz⟩ := hz
   go_simp
   (try with_reducible rfl)
  simp only [Act.put, List.setIfInBounds_toArray, List.set_cons_zero, List.set_cons_succ]
  refine hT (i := 5) (v := ?_) rfl rfl hHeld ?_ ?_
  rotate_left
  ·intro wh hz; iterate 13 obtain ⟨_, hz⟩ := hz
   go_simp
   (try with_reducible rfl)
  simp only [Act.put, List.setIfInBounds_toArray, List.set_cons_zero, List.set_cons_succ]
  refine held_two (i := 6) (j := 10) rfl rfl (by kernel_rfl) (fun K hK => ?_) (fun K hK => ?_)
  ·go_simp; go_at_call 20; refine (CM.out _ hd).mono ?_; rintro e w_1 ⟨ua, ud, rfl, hF_1, hO_1, hb_1⟩
   have hB_1 := hd.trans (hb_1.mono hd.size)
   refine hK.out _ _ ⟨keep_cell q0 hB_1 hlq, keep_cell q1 hB_1 hlq, keep_cell q2 hB_1 hlq, keep_cell q3 hB_1 hlq, keep_cell q4 hB_1 hlq, keep_cell q5 hB_1 hlq, keep_cell p0 hB_1 hlb, keep_cell p1 hB_1 hlb, keep_cell p2 hB_1 hlb, keep_cell p3 hB_1 hlb, keep_cell p4 hB_1 hlb, keep_cell p5 hB_1 hlb, keep_cell t0 hB_1 hlt, keep_cell t1 hB_1 hlt⟩ (fun hHeld => ?_)
   clear hK K
   (try simp only [Act.put, List.setIfInBounds_toArray, List.set_cons_zero, List.set_cons_succ])
   refine hT (i := 7) (v := ?_) rfl rfl hHeld ?_ ?_
   rotate_left
   ·intro wh hz; iterate 13 obtain ⟨_, hz⟩ := hz
    go_simp
    (try with_reducible rfl)
   simp only [Act.put, List.setIfInBounds_toArray, List.set_cons_zero, List.set_cons_succ]
   refine hT (i := 8) (v := ?_) rfl rfl hHeld ?_ ?_
   rotate_left
   ·intro wh hz; iterate 13 obtain ⟨_, hz⟩ := hz
    go_simp
    (try with_reducible rfl)
   simp only [Act.put, List.setIfInBounds_toArray, List.set_cons_zero, List.set_cons_succ]
   refine hT (i := 9) (v := ?_) rfl rfl hHeld ?_ ?_
   rotate_left
   ·intro wh hz; iterate 13 obtain ⟨_, hz⟩ := hz
    go_simp
    (try with_reducible rfl)
   simp only [Act.put, List.setIfInBounds_toArray, List.set_cons_zero, List.set_cons_succ]
   refine held_step (i := 10) rfl (by kernel_rfl) (fun K hK => ?_)
   have hb_2 := alloc_below w_1 (.cells #[.string ⟨#[]⟩, .slice none 0 0, .int .i64 0, .int .u32 0, .int .i64 0, .int .i64 0] 54)
   have hT_2 := box_there (Below.refl (w_1.alloc (.cells #[.string ⟨#[]⟩, .slice none 0 0, .int .i64 0, .int .u32 0, .int .i64 0, .int .i64 0] 54)).heap.size (w_1.alloc (.cells #[.string ⟨#[]⟩, .slice none 0 0, .int .i64 0, .int .u32 0, .int .i64 0, .int .i64 0] 54)))
   have hL_2 : w_1.heap.size < (w_1.alloc (.cells #[.string ⟨#[]⟩, .slice none 0 0, .int .i64 0, .int .u32 0, .int .i64 0, .int .i64 0] 54)).heap.size := by rw [World.size_alloc]; omega
   have hG_2 := hB_1.size
   have hB_2 := hB_1.trans (hb_2.mono hB_1.size)
   have hP_2 := hF_1.later (below_puts (g := w_1.heap.size) (o := 0) hb_2 (Nat.le_refl _) [.string us, .slice ua uL.length ud, .int .i64 ql, .int .u32 qc, .int .i64 uf, .int .i64 ut])
   go_simp
   refine hK.out _ _ ⟨keep_cell q0 hB_2 hlq, keep_cell q1 hB_2 hlq, keep_cell q2 hB_2 hlq, keep_cell q3 hB_2 hlq, keep_cell q4 hB_2 hlq, keep_cell q5 hB_2 hlq, keep_cell p0 hB_2 hlb, keep_cell p1 hB_2 hlb, keep_cell p2 hB_2 hlb, keep_cell p3 hB_2 hlb, keep_cell p4 hB_2 hlb, keep_cell p5 hB_2 hlb, keep_cell t0 hB_2 hlt, keep_cell t1 hB_2 hlt⟩ (fun hHeld => ?_)
   clear hK K
   (try simp only [Act.put, List.setIfInBounds_toArray, List.set_cons_zero, List.set_cons_succ])
   generalize w_1.alloc (.cells #[.string ⟨#[]⟩, .slice none 0 0, .int .i64 0, .int .u32 0, .int .i64 0, .int .i64 0] 54) = w_2 at *
   have r0 := there_free hT_2 0 (by decide)
   have r1 := there_free hT_2 1 (by decide)
   have r2 := there_free hT_2 2 (by decide)
   have r3 := there_free hT_2 3 (by decide)
   have r4 := there_free hT_2 4 (by decide)
   have r5 := there_free hT_2 5 (by decide)
   obtain ⟨y0, hy0⟩ := there_cell hT_2 0 (by decide)
   obtain ⟨y1, hy1⟩ := there_cell hT_2 1 (by decide)
   obtain ⟨y2, hy2⟩ := there_cell hT_2 2 (by decide)
   obtain ⟨y3, hy3⟩ := there_cell hT_2 3 (by decide)
   obtain ⟨y4, hy4⟩ := there_cell hT_2 4 (by decide)
   obtain ⟨y5, hy5⟩ := there_cell hT_2 5 (by decide)
   have HB_3 : Hid (Below w2.heap.size w2 (w_2.setCells w_1.heap.size 0 [.string us, .slice ua uL.length ud, .int .i64 ql, .int .u32 qc, .int .i64 uf, .int .i64 ut])) := Lib.hid (below_puts (g := w_1.heap.size) (o := 0) hB_2 hG_2 [.string us, .slice ua uL.length ud, .int .i64 ql, .int .u32 qc, .int .i64 uf, .int .i64 ut])
   have HZ_3 := Lib.hid (below_puts_base (g := w_1.heap.size) (o := 0) (Below.refl 0 w_2) (Nat.zero_le _) [.string us, .slice ua uL.length ud, .int .i64 ql, .int .u32 qc, .int .i64 uf, .int .i64 ut]).size
   have HC_3 := Lib.hid (c6_puts w_2 w_1.heap.size (.string us) (.slice ua uL.length ud) (.int .i64 ql) (.int .u32 qc) (.int .i64 uf) (.int .i64 ut) hT_2)
   have HF_3 : Hid (FldsAt (w_2.setCells w_1.heap.size 0 [.string us, .slice ua uL.length ud, .int .i64 ql, .int .u32 qc, .int .i64 uf, .int .i64 ut]) (.slice ua uL.length ud) uL) := Lib.hid hP_2
   refine held_step (i := 11) rfl (by kernel_rfl) (fun K hK => ?_)
   go_simp
   refine hK.out _ (w_2.setCells w_1.heap.size 0 [.string us, .slice ua uL.length ud, .int .i64 ql, .int .u32 qc, .int .i64 uf, .int .i64 ut]) ⟨keep_cell q0 HB_3.out hlq, keep_cell q1 HB_3.out hlq, keep_cell q2 HB_3.out hlq, keep_cell q3 HB_3.out hlq, keep_cell q4 HB_3.out hlq, keep_cell q5 HB_3.out hlq, keep_cell p0 HB_3.out hlb, keep_cell p1 HB_3.out hlb, keep_cell p2 HB_3.out hlb, keep_cell p3 HB_3.out hlb, keep_cell p4 HB_3.out hlb, keep_cell p5 HB_3.out hlb, keep_cell t0 HB_3.out hlt, keep_cell t1 HB_3.out hlt⟩ (fun hHeld => ?_)
   clear hK K
   (try simp only [Act.put, List.setIfInBounds_toArray, List.set_cons_zero, List.set_cons_succ])
   generalize (w_2.setCells w_1.heap.size 0 [.string us, .slice ua uL.length ud, .int .i64 ql, .int .u32 qc, .int .i64 uf, .int .i64 ut]) = w_3 at *
   refine hT (i := 12) (v := ?_) rfl rfl hHeld ?_ ?_
   rotate_left
   ·intro wh hz; iterate 13 obtain ⟨_, hz⟩ := hz
    go_simp
    (try with_reducible rfl)
   simp only [Act.put, List.setIfInBounds_toArray, List.set_cons_zero, List.set_cons_succ]
   refine wpAnyH_done (by kernel_rfl) ?_ _
   go_wp2
   go_meet
   exact ⟨w_1.heap.size, ua, ud, rfl, rfl, HC_3.out, HF_3.out, Nat.lt_of_lt_of_le hL_2 HZ_3.out, HB_3.out⟩
  ·have hb_4 := alloc_below wd (.cells #[.string ⟨#[]⟩, .slice none 0 0, .int .i64 0, .int .u32 0, .int .i64 0, .int .i64 0] 54)
   have hT_4 := box_there (Below.refl (wd.alloc (.cells #[.string ⟨#[]⟩, .slice none 0 0, .int .i64 0, .int .u32 0, .int .i64 0, .int .i64 0] 54)).heap.size (wd.alloc (.cells #[.string ⟨#[]⟩, .slice none 0 0, .int .i64 0, .int .u32 0, .int .i64 0, .int .i64 0] 54)))
   have hL_4 : wd.heap.size < (wd.alloc (.cells #[.string ⟨#[]⟩, .slice none 0 0, .int .i64 0, .int .u32 0, .int .i64 0, .int .i64 0] 54)).heap.size := by rw [World.size_alloc]; omega
   have hG_4 := hd.size
   have hB_4 := hd.trans (hb_4.mono hd.size)
   go_simp
   refine hK.out _ _ ⟨keep_cell q0 hB_4 hlq, keep_cell q1 hB_4 hlq, keep_cell q2 hB_4 hlq, keep_cell q3 hB_4 hlq, keep_cell q4 hB_4 hlq, keep_cell q5 hB_4 hlq, keep_cell p0 hB_4 hlb, keep_cell p1 hB_4 hlb, keep_cell p2 hB_4 hlb, keep_cell p3 hB_4 hlb, keep_cell p4 hB_4 hlb, keep_cell p5 hB_4 hlb, keep_cell t0 hB_4 hlt, keep_cell t1 hB_4 hlt⟩ (fun hHeld => ?_)
   clear hK K
   (try simp only [Act.put, List.setIfInBounds_toArray, List.set_cons_zero, List.set_cons_succ])
   generalize wd.alloc (.cells #[.string ⟨#[]⟩, .slice none 0 0, .int .i64 0, .int .u32 0, .int .i64 0, .int .i64 0] 54) = w_4 at *
   refine held_step (i := 6) rfl (by kernel_rfl) (fun K hK => ?_)
   go_simp; go_at_call 20; refine (CM.out _ hB_4).mono ?_; rintro e w_5 ⟨ua, ud, rfl, hF_5, hO_5, hb_5⟩
   have hB_5 := hB_4.trans (hb_5.mono hB_4.size)
   have hTA_5 := there_later hT_4 hb_5 hL_4
   have hLA_5 := Nat.lt_of_lt_of_le hL_4 hb_5.size
   have hFar_5 : ∀ q, (Value.slice ua uL.length ud).ownBlock = some q → q ≠ wd.heap.size := fun q hq => by have := hO_5 q hq; have := hL_4; omega
   refine hK.out _ _ ⟨keep_cell q0 hB_5 hlq, keep_cell q1 hB_5 hlq, keep_cell q2 hB_5 hlq, keep_cell q3 hB_5 hlq, keep_cell q4 hB_5 hlq, keep_cell q5 hB_5 hlq, keep_cell p0 hB_5 hlb, keep_cell p1 hB_5 hlb, keep_cell p2 hB_5 hlb, keep_cell p3 hB_5 hlb, keep_cell p4 hB_5 hlb, keep_cell p5 hB_5 hlb, keep_cell t0 hB_5 hlt, keep_cell t1 hB_5 hlt⟩ (fun hHeld => ?_)
   clear hK K
   (try simp only [Act.put, List.setIfInBounds_toArray, List.set_cons_zero, List.set_cons_succ])
   refine hT (i := 7) (v := ?_) rfl rfl hHeld ?_ ?_
   rotate_left
   ·intro wh hz; iterate 13 obtain ⟨_, hz⟩ := hz
    go_simp
    (try with_reducible rfl)
   simp only [Act.put, List.setIfInBounds_toArray, List.set_cons_zero, List.set_cons_succ]
   refine hT (i := 8) (v := ?_) rfl rfl hHeld ?_ ?_
   rotate_left
   ·intro wh hz; iterate 13 obtain ⟨_, hz⟩ := hz
    go_simp
    (try with_reducible rfl)
   simp only [Act.put, List.setIfInBounds_toArray, List.set_cons_zero, List.set_cons_succ]
   refine hT (i := 9) (v := ?_) rfl rfl hHeld ?_ ?_
   rotate_left
   ·intro wh hz; iterate 13 obtain ⟨_, hz⟩ := hz
    go_simp
    (try with_reducible rfl)
   simp only [Act.put, List.setIfInBounds_toArray, List.set_cons_zero, List.set_cons_succ]
   have r0 := there_free hTA_5 0 (by decide)
   have r1 := there_free hTA_5 1 (by decide)
   have r2 := there_free hTA_5 2 (by decide)
   have r3 := there_free hTA_5 3 (by decide)
   have r4 := there_free hTA_5 4 (by decide)
   have r5 := there_free hTA_5 5 (by decide)
   obtain ⟨y0, hy0⟩ := there_cell hTA_5 0 (by decide)
   obtain ⟨y1, hy1⟩ := there_cell hTA_5 1 (by decide)
   obtain ⟨y2, hy2⟩ := there_cell hTA_5 2 (by decide)
   obtain ⟨y3, hy3⟩ := there_cell hTA_5 3 (by decide)
   obtain ⟨y4, hy4⟩ := there_cell hTA_5 4 (by decide)
   obtain ⟨y5, hy5⟩ := there_cell hTA_5 5 (by decide)
   have HB_6 : Hid (Below w2.heap.size w2 (w_5.setCells wd.heap.size 0 [.string us, .slice ua uL.length ud, .int .i64 ql, .int .u32 qc, .int .i64 uf, .int .i64 ut])) := Lib.hid (below_puts (g := wd.heap.size) (o := 0) hB_5 hG_4 [.string us, .slice ua uL.length ud, .int .i64 ql, .int .u32 qc, .int .i64 uf, .int .i64 ut])
   have HZ_6 := Lib.hid (below_puts_base (g := wd.heap.size) (o := 0) (Below.refl 0 w_5) (Nat.zero_le _) [.string us, .slice ua uL.length ud, .int .i64 ql, .int .u32 qc, .int .i64 uf, .int .i64 ut]).size
   have HC_6 := Lib.hid (c6_puts w_5 wd.heap.size (.string us) (.slice ua uL.length ud) (.int .i64 ql) (.int .u32 qc) (.int .i64 uf) (.int .i64 ut) hTA_5)
   have HF_6 : Hid (FldsAt (w_5.setCells wd.heap.size 0 [.string us, .slice ua uL.length ud, .int .i64 ql, .int .u32 qc, .int .i64 uf, .int .i64 ut]) (.slice ua uL.length ud) uL) := Lib.hid (rd_puts hF_5 hFar_5 [.string us, .slice ua uL.length ud, .int .i64 ql, .int .u32 qc, .int .i64 uf, .int .i64 ut])
   refine held_step (i := 11) rfl (by kernel_rfl) (fun K hK => ?_)
   go_simp
   refine hK.out _ (w_5.setCells wd.heap.size 0 [.string us, .slice ua uL.length ud, .int .i64 ql, .int .u32 qc, .int .i64 uf, .int .i64 ut]) ⟨keep_cell q0 HB_6.out hlq, keep_cell q1 HB_6.out hlq, keep_cell q2 HB_6.out hlq, keep_cell q3 HB_6.out hlq, keep_cell q4 HB_6.out hlq, keep_cell q5 HB_6.out hlq, keep_cell p0 HB_6.out hlb, keep_cell p1 HB_6.out hlb, keep_cell p2 HB_6.out hlb, keep_cell p3 HB_6.out hlb, keep_cell p4 HB_6.out hlb, keep_cell p5 HB_6.out hlb, keep_cell t0 HB_6.out hlt, keep_cell t1 HB_6.out hlt⟩ (fun hHeld => ?_)
   clear hK K
   (try simp only [Act.put, List.setIfInBounds_toArray, List.set_cons_zero, List.set_cons_succ])
   generalize (w_5.setCells wd.heap.size 0 [.string us, .slice ua uL.length ud, .int .i64 ql, .int .u32 qc, .int .i64 uf, .int .i64 ut]) = w_6 at *
   refine hT (i := 12) (v := ?_) rfl rfl hHeld ?_ ?_
   rotate_left
   ·intro wh hz; iterate 13 obtain ⟨_, hz⟩ := hz
    go_simp
    (try with_reducible rfl)
   simp only [Act.put, List.setIfInBounds_toArray, List.set_cons_zero, List.set_cons_succ]
   refine wpAnyH_done (by kernel_rfl) ?_ _
   go_wp2
   go_meet
   exact ⟨wd.heap.size, ua, ud, rfl, rfl, HC_6.out, HF_6.out, Nat.lt_of_lt_of_le hLA_5 HZ_6.out, HB_6.out⟩
 case rest =>
  obtain ⟨gu, ua, ud, rfl, rfl, hX, hF, hlu, hbu⟩ := hcut
  have HS3 := Lib.hid (HS2.out.later hbu)
  have HX := Lib.hid hX
  have HF := Lib.hid hF
  have HLU := Lib.hid hlu
  clear CM q0 q1 q2 q3 q4 q5 t0 t1 p0 p1 p2 p3 p4 p5 hX hF hlu hbu HS2 hlq hlt hlb
  cases ok
  ·have HN : Hid (quietK p l (j : Int) (tl, tc) now = []) := Lib.hid (by rw [HQ.out]; rfl)
   go_wp2
   go_ret
   exact ⟨_, rfl, by rw [HN.out]; exact World.ownsRow_nil _ _ _ _, HS3.out.below⟩
  ·have HN : Hid (quietK p l (j : Int) (tl, tc) now = idxTo F p.ih p.ih.length) := Lib.hid (by rw [HQ.out]; rfl)
   obtain ⟨p0, p1, p2, p3, p4, p5⟩ := HE.out
   have p0 := KEEP.out p0 HS3.out.below
   have p1 := KEEP.out p1 HS3.out.below
   have p2 := KEEP.out p2 HS3.out.below
   have p3 := KEEP.out p3 HS3.out.below
   have p4 := KEEP.out p4 HS3.out.below
   have p5 := KEEP.out p5 HS3.out.below
   have kid := id_any src fl alv ac fr til _ wc (HFK.out.later HS3.out.below) HID8.out
   generalize shortL (idB src fl) = sid at *
   go_wp2_with fail
   refine kid.mono ?_
   rintro e w4 ⟨rfl, hb4⟩
   have HS4 := Lib.hid (HS3.out.later hb4)
   have HX4 := Lib.hid (HX.out.later hb4 HLU.out)
   have HF4 := Lib.hid (HF.out.later hb4)
   have HLU4 := Lib.hid (Nat.lt_of_lt_of_le HLU.out hb4.size)
   clear kid hb4 p0 p1 p2 p3 p4 p5 HS3 HX HF HLU HQ
   obtain ⟨q0, q1, q2, q3, q4, q5⟩ := HS4.out.p
   go_wp2
   clear q0 q1 q2 q3 q4 q5
   go_loopw [13, 58] (fun s13 i wr => ∃ (n : Nat), i = .int .i64 n ∧ n ≤ p.ih.length ∧ Hid (wr.ownsRow w4.heap.size 3 1 s13 (idxTo F p.ih n).length ((idxTo F p.ih n).map I)) ∧ Hid (Below w4.heap.size w4 wr)) (fun _ i _ => p.ih.length - (intOf i).toNat)
   case atStart => exact ⟨0, rfl, Nat.zero_le _, Lib.hid (World.ownsRow_nil _ _ _ _), Lib.hid (Below.refl _ _)⟩
   case round =>
    obtain ⟨n, rfl, hn, HO, HB⟩ := hrel
    by_cases hnl : n < p.ih.length
    ·obtain ⟨b5, o5, rfl, hb5, hc5⟩ := KIR.out (by omega)
     have hBw := HS4.out.below.trans (HB.out.mono HS4.out.below.size)
     have hat := fun i v h => cellsG_at ihC_len p.ih n hnl i v h
     have z0 := keep_cell (hc5 _ _ (hat 0 _ rfl)) hBw hb5
     have z1 := keep_cell (hc5 _ _ (hat 1 _ rfl)) hBw hb5
     have z2 := keep_cell (hc5 _ _ (hat 2 _ rfl)) hBw hb5
     have z3 := keep_cell (hc5 _ _ (hat 3 _ rfl)) hBw hb5
     have z4 := keep_cell (hc5 _ _ (hat 4 _ rfl)) hBw hb5
     rw [Nat.add_zero] at z0
     rw [← Nat.add_assoc] at z1 z2 z3 z4
     have hmem := List.getElem_mem hnl
     have hin := KIN.out _ hmem
     have hbad := HCK.out.2 _ hmem
     have HST := Lib.hid (idxTo_step F p.ih hnl)
     have hlen12 := HCK.out.1
     have hil := idxTo_len F p.ih n
     have KB := Lib.hid (fun (c : Al) fa fc W h1 h2 h3 h4 => KBY.out _ hmem hbad sid c fa fc W h1 h2 h3 h4)
     have HFX := Lib.hid (HRU.out p.ih[n])
     generalize p.ih[n] = x at *
     obtain ⟨bys, xlv, xc, frm, whn, bv, fv, wv⟩ := x
     dsimp only at *
     obtain ⟨ba, bc, hba, _, _⟩ := RdAt.shape hin.b
     dsimp only at hba
     subst hba
     obtain ⟨ra, rc, hra, _, _⟩ := RdAt.shape hin.f
     dsimp only at hra
     subst hra
     obtain ⟨wa, wc, hwa, _, _⟩ := RdAt.shape hin.m
     dsimp only at hwa
     subst hwa
     have HBW := Lib.hid hBw
     obtain ⟨W5, hW5⟩ : ∃ z, wr.alloc (.cells #[.slice ba bys.length bc, .int .i64 xlv, .int .u32 xc, .slice ra frm.length rc, .slice wa whn.length wc] 51) = z := ⟨_, rfl⟩
     have hx5 : C5 wr.heap.size (.slice ba bys.length bc) (.int .i64 xlv) (.int .u32 xc) (.slice ra frm.length rc) (.slice wa whn.length wc) W5 := by rw [← hW5]; exact box5n wr _ _ _ _ _ _
     have hs5 : wr.heap.size < W5.heap.size := by rw [← hW5, World.size_alloc]; omega
     have hb5w : Below wr.heap.size wr W5 := by rw [← hW5]; exact alloc_below _ _
     have hB5 := HB.out.trans (hb5w.mono HB.out.size)
     have HS5 := Lib.hid (HS4.out.later hB5)
     have HO5 := Lib.hid (own_later HO.out hb5w)
     have HB5 := Lib.hid hB5
     obtain ⟨x0, x1, x2, x3, x4⟩ := hx5
     have HX5 := Lib.hid (show C5 wr.heap.size (.slice ba bys.length bc) (.int .i64 xlv) (.int .u32 xc) (.slice ra frm.length rc) (.slice wa whn.length wc) W5 from ⟨x0, x1, x2, x3, x4⟩)
     have HLX := Lib.hid hs5
     have t0 := HS5.out.t0
     have t1 := HS5.out.t1
     clear hmem hin hbad hat hc5 hBw hb5w hB5 HO HB hs5
     have kf := flows_any xlv xc tl tc W5
     cases hfl : flowsL xlv xc tl tc
     ·have HN1 : Hid (idxTo F p.ih (n + 1) = idxTo F p.ih n) := Lib.hid (by rw [HST.out, HFX.out, hfl]; simp)
      rw [hfl] at kf
      clear hfl
      go_wp2_with fail
      refine kf.mono ?_
      rintro e w6 ⟨rfl, hb6⟩
      have HB6 := Lib.hid (HB5.out.trans (hb6.mono HB5.out.size))
      have HO6 := Lib.hid (own_later HO5.out hb6)
      clear kf hb6 z0 z1 z2 z3 z4 x0 x1 x2 x3 x4 t0 t1 HS5 hW5
      go_wp2
      go_roundw
      case rel => exact ⟨n + 1, by go_num, by omega, Lib.hid (by rw [HN1.out]; exact HO6.out), HB6⟩
      case measure => (simp [intOf]; try omega)
     ·rw [hfl] at kf
      have HFX2 : Hid (F ⟨bys, xlv, xc, frm, whn, .slice ba bys.length bc, .slice ra frm.length rc, .slice wa whn.length wc⟩ = byM ⟨bys, xlv, xc, frm, whn, .slice ba bys.length bc, .slice ra frm.length rc, .slice wa whn.length wc⟩ l sid uL now) := Lib.hid (by rw [HFX.out, hfl, Bool.true_and])
      clear hfl
      go_wp2_with fail
      refine kf.mono ?_
      rintro e w6 ⟨rfl, hb6⟩
      have HB6 := Lib.hid (HB5.out.trans (hb6.mono HB5.out.size))
      have HO6 := Lib.hid (own_later HO5.out hb6)
      have HX6 := Lib.hid (HX5.out.later hb6 HLX.out)
      clear kf hb6 z0 z1 z2 z3 z4 x0 x1 x2 x3 x4 t0 t1 HS5 hW5 HX5 HB5 HO5 HFX
      obtain ⟨x0, x1, x2, x3, x4⟩ := HX6.out
      obtain ⟨y0, y1, y2, y3, y4, y5⟩ := HX4.out.later HB6.out HLU4.out
      have kb := KB.out ⟨us, uL, ql, qc, uf, ut⟩ ua ud w6 (HS4.out.below.trans (HB6.out.mono HS4.out.below.size)) (HF4.out.later HB6.out) (fun f hf => HFIT.out.fl f (HIN.out.1 f hf)) (Nat.le_trans HIN.out.2 hr8)
      dsimp only at kb
      generalize byM ⟨bys, xlv, xc, frm, whn, .slice ba bys.length bc, .slice ra frm.length rc, .slice wa whn.length wc⟩ l sid uL now = BM at *
      go_wp2_with fail
      refine kb.mono ?_
      rintro e w7 ⟨rfl, hb7⟩
      have hB7 := HB6.out.trans (hb7.mono HB6.out.size)
      have hO7 := own_later HO6.out hb7
      have HB7 := Lib.hid hB7
      have HO7 := Lib.hid hO7
      clear kb hb7 x0 x1 x2 x3 x4 y0 y1 y2 y3 y4 y5 HX6 HB6 HO6
      cases BM
      ·have HN1 : Hid (idxTo F p.ih (n + 1) = idxTo F p.ih n) := Lib.hid (by rw [HST.out, HFX2.out]; simp)
       clear hB7 hO7
       go_wp2
       go_roundw
       case rel => exact ⟨n + 1, by go_num, by omega, Lib.hid (by rw [HN1.out]; exact HO7.out), HB7⟩
       case measure => (simp [intOf]; try omega)
      ·have HN1 : Hid (idxTo F p.ih (n + 1) = idxTo F p.ih n ++ [(n : Int)]) := Lib.hid (by rw [HST.out, HFX2.out]; simp)
       have hb8 := alloc_below w7 (.cells #[I n] 3)
       have hown8 := hO7.alloc (.cells #[I n] 3)
       have hsz8 := hB7.size
       clear hO7
       go_wp2_with (at_builtin; (refine wpList_append_own _ rfl _ _ 38 rfl w4.heap.size 3 i0 (.int .i64 0) 1 8 Tryz.underlying38 hi hz0 hz1 hz2 rfl (by decide) _ _ _ rfl hown8 ⟨w7.heap.size, 0, none⟩ 1 1 [I n] rfl rfl (cell_one_new _ _ _) (by simp [Value.oneCell']) (by unfold maxLen; omega) (by omega) (by simp; omega) ?_); intro v' w8 hown' hg8 hnil8)
       have HB8 := Lib.hid ((hB7.trans (hb8.mono hB7.size)).grown hg8 (by simp; omega) (fun j e => (hown8.lt j e).1))
       have HO8 : Hid (w8.ownsRow w4.heap.size 3 1 v' (idxTo F p.ih (n + 1)).length ((idxTo F p.ih (n + 1)).map I)) := Lib.hid (by rw [HN1.out]; simpa using hown')
       clear hown' hg8 hnil8 hown8 hb8 hB7 HO7 HB7
       go_wp2
       go_roundw
       case rel => exact ⟨n + 1, by go_num, by omega, HO8, HB8⟩
       case measure => (simp [intOf]; try omega)
    ·obtain rfl : n = p.ih.length := by omega
     go_wp2
     go_ret
     exact ⟨_, rfl, by rw [HN.out]; exact World.ownsRow.mono HO.out HS4.out.below.size, HS4.out.below.trans (HB.out.mono HS4.out.below.size)⟩
end Go.Proofs.YtipnhpfpppblhaaGreat
/- inhibit.told: a contract. -/
namespace Go.Proofs.YtipnhpfpppblhaaGreat
open Go.RowKit Go.Maps
def toldA (ra : List Nmd) (t : Int × Nat) (now : Int) (q : Al × Value) : Bool := cutOk ra q.1.fl (q.1.lv, q.1.c) t && rightA q.1 && firesA q.1 now
set_option maxHeartbeats 6400000 in
set_option maxRecDepth 100000 in
theorem told_any (v : PV) (p : PD) (l : List (Al × Value)) (lv : Value) (tl : Int) (tc : Nat) (now : Int) (w : World) (hp : PolAt w v p) (hpf : PolFitD p) (hl : AlsAt w lv l) (hlen : l.length ≤ 1000000) (h12 : ∀ q ∈ l, q.1.fl.length ≤ 12) :
  Calls Tryz.prog 32 #[v.v, lv, Lab tl tc, .int .i64 now] w fun e w' => ∃ r, e = .returned r ∧ w'.ownsRow w.heap.size 3 1 r (idxF (toldA p.ra (tl, tc) now) l).length ((idxF (toldA p.ra (tl, tc) now) l).map I) ∧ Below w.heap.size w w' := by
 obtain ⟨v0, v1, v2, v3, v4, v5⟩ := v
 obtain ⟨h0, h1, h2, h3, ⟨h4, _⟩, h5, _⟩ := hp
 dsimp only at h0 h1 h2 h3 h4 h5
 obtain ⟨a0, c0, rfl, _, _⟩ := RdAt.shape h0
 obtain ⟨a1, c1, rfl, _, _⟩ := RdAt.shape h1
 obtain ⟨a2, c2, rfl, _, _⟩ := RdAt.shape h2
 obtain ⟨a3, c3, rfl, _, _⟩ := RdAt.shape h3
 obtain ⟨a4, c4, rfl, _, _⟩ := RdAt.shape h4
 obtain ⟨a5, c5, rfl, _, _⟩ := RdAt.shape h5
 obtain ⟨la, lc, rfl, hlc, hlr⟩ := RdAt.shape hl.row
 have HLR := Lib.hid hlr
 have HFL := Lib.hid hl.fld
 have H12 := Lib.hid h12
 have KCUT : Hid (∀ (x m : Al) (ok : Bool) (fa : Option Addr) (fc : Nat) (W : World), Below w.heap.size w W → FldsAt W (.slice fa x.fl.length fc) x.fl → x.fl.length ≤ 12 → cutOk p.ra x.fl (x.lv, x.c) (tl, tc) = ok → cutAl p.ra x (tl, tc) = m →
   Calls Tryz.prog 20 #[.agg #[.slice a0 p.so.length c0, .slice a1 p.re.length c1, .slice a2 p.pe.length c2, .slice a3 p.ra.length c3, .slice a4 p.ro.length c4, .slice a5 p.ih.length c5], .agg #[.string x.src, .slice fa x.fl.length fc, .int .i64 x.lv, .int .u32 x.c, .int .i64 x.fr, .int .i64 x.til], Lab tl tc] W fun e w' =>
    ∃ pa pc, e = .returned (.tuple #[.agg #[.string m.src, .slice pa m.fl.length pc, .int .i64 m.lv, .int .u32 m.c, .int .i64 m.fr, .int .i64 m.til], .bool ok]) ∧ FldsAt w' (.slice pa m.fl.length pc) m.fl ∧ (∀ q, (Value.slice pa m.fl.length pc).ownBlock = some q → W.heap.size ≤ q) ∧ Below W.heap.size W w') :=
  Lib.hid (fun x m ok fa fc W hW hF hx hok hm => cut_l (a0, p.so.length, c0) (a1, p.re.length, c1) (a2, p.pe.length, c2) (a4, p.ro.length, c4) (a5, p.ih.length, c5) p.ra (.slice a3 p.ra.length c3) x (.slice fa x.fl.length fc) (tl, tc) m ok W (h3.later hW) hpf.h3.1 hF (by omega) hok hm)
 obtain ⟨W0, hW0⟩ : ∃ z, (w.alloc (.cells #[.slice a0 p.so.length c0, .slice a1 p.re.length c1, .slice a2 p.pe.length c2, .slice a3 p.ra.length c3, .slice a4 p.ro.length c4, .slice a5 p.ih.length c5] 26)).alloc (.cells #[.int .i64 tl, .int .u32 tc] 36) = z := ⟨_, rfl⟩
 have HS0 : Hid (QPt w (.slice a0 p.so.length c0) (.slice a1 p.re.length c1) (.slice a2 p.pe.length c2) (.slice a3 p.ra.length c3) (.slice a4 p.ro.length c4) (.slice a5 p.ih.length c5) tl tc W0) := Lib.hid (by rw [← hW0]; exact qpt_new w _ _ _ _ _ _ _ _ _ _)
 have HW0 := Lib.hid hW0
 obtain ⟨i0, hi, hz0, hz1, hz2⟩ := info_parts infoInt13
 clear h0 h1 h2 h3 h4 h5 hW0 hlr hl h12
 go_enter Tryz.func32, Tryz.ntmps32
 go_upto_region 1 with fail
 rw [HW0.out]
 clear HW0
 go_wp2
 go_loopw [9, 16] (fun s9 i wr => ∃ (n : Nat), i = .int .i64 n ∧ n ≤ l.length ∧ Hid (wr.ownsRow W0.heap.size 3 1 s9 (idxTo (toldA p.ra (tl, tc) now) l n).length ((idxTo (toldA p.ra (tl, tc) now) l n).map I)) ∧ Hid (Below W0.heap.size W0 wr)) (fun _ i _ => l.length - (intOf i).toNat)
 case atStart => exact ⟨0, rfl, Nat.zero_le _, Lib.hid (World.ownsRow_nil _ _ _ _), Lib.hid (Below.refl _ _)⟩
 case round =>
  obtain ⟨n, rfl, hn, HO, HB⟩ := hrel
  by_cases hnl : n < l.length
  ·obtain ⟨b, o, rfl, hbl, hcell⟩ := HLR.out (by omega)
   have hat := alCells_at l n hnl
   have hBw := HS0.out.below.trans (HB.out.mono HS0.out.below.size)
   have p0 := keep_cell (hcell _ _ (hat 0 _ rfl)) hBw hbl
   have p1 := keep_cell (hcell _ _ (hat 1 _ rfl)) hBw hbl
   have p2 := keep_cell (hcell _ _ (hat 2 _ rfl)) hBw hbl
   have p3 := keep_cell (hcell _ _ (hat 3 _ rfl)) hBw hbl
   have p4 := keep_cell (hcell _ _ (hat 4 _ rfl)) hBw hbl
   have p5 := keep_cell (hcell _ _ (hat 5 _ rfl)) hBw hbl
   rw [Nat.add_zero] at p0
   rw [← Nat.add_assoc] at p1 p2 p3 p4 p5
   have hmem := List.getElem_mem hnl
   obtain ⟨hfk, hfit⟩ := HFL.out _ hmem
   have hf12 := H12.out _ hmem
   have HST := Lib.hid (idxTo_step (toldA p.ra (tl, tc) now) l hnl)
   have hil := idxTo_len (toldA p.ra (tl, tc) now) l n
   have HG : Hid (toldA p.ra (tl, tc) now l[n] = (cutOk p.ra l[n].1.fl (l[n].1.lv, l[n].1.c) (tl, tc) && rightA l[n].1 && firesA l[n].1 now)) := Lib.hid rfl
   generalize toldA p.ra (tl, tc) now = F at *
   generalize l[n] = y at *
   obtain ⟨⟨src, fl, alv, ac, fr, til⟩, fv⟩ := y
   dsimp only at *
   obtain ⟨fa, fc, rfl, hfc, _⟩ := RdAt.shape hfk
   obtain ⟨W1, hW1⟩ : ∃ z, wr.alloc (.cells #[.string src, .slice fa fl.length fc, .int .i64 alv, .int .u32 ac, .int .i64 fr, .int .i64 til] 54) = z := ⟨_, rfl⟩
   have hx : C6 wr.heap.size (.string src) (.slice fa fl.length fc) (.int .i64 alv) (.int .u32 ac) (.int .i64 fr) (.int .i64 til) W1 := by rw [← hW1]; exact box6n wr _ _ _ _ _ _ _
   have hs1 : wr.heap.size < W1.heap.size := by rw [← hW1, World.size_alloc]; omega
   have hb1 : Below wr.heap.size wr W1 := by rw [← hW1]; exact alloc_below _ _
   have HB1 := Lib.hid (HB.out.trans (hb1.mono HB.out.size))
   have HO1 := Lib.hid (own_later HO.out hb1)
   have HS1 := Lib.hid (HS0.out.later HB1.out)
   have HX1 := Lib.hid hx
   have HL1 := Lib.hid hs1
   have HFK := Lib.hid hfk
   obtain ⟨m, hm⟩ : ∃ m, cutAl p.ra ⟨src, fl, alv, ac, fr, til⟩ (tl, tc) = m := ⟨_, rfl⟩
   obtain ⟨ok, hok⟩ : ∃ z, cutOk p.ra fl (alv, ac) (tl, tc) = z := ⟨_, rfl⟩
   have kc := KCUT.out ⟨src, fl, alv, ac, fr, til⟩ m ok fa fc W1 HS1.out.below (hfk.later HS1.out.below) hf12 hok hm
   have KR := Lib.hid (fun V (h : Below w.heap.size w V) => aright_any src fl alv ac fr til _ V hfit.src (hfk.later h) hfit.fl hfit.len)
   have KF := Lib.hid (fun V => fires_any src fa fl.length fc alv ac fr til now V)
   have hR : rightA ⟨src, fl, alv, ac, fr, til⟩ = (whoA src fl alv && beginsA fr && endsA fr til) := rfl
   have hF : firesA ⟨src, fl, alv, ac, fr, til⟩ now = (decide (fr ≤ now) && (decide (til = 0) || decide (now < til))) := rfl
   rw [← hR] at KR
   rw [← hF] at KF
   rw [hok] at HG
   generalize rightA ⟨src, fl, alv, ac, fr, til⟩ = R at *
   generalize firesA ⟨src, fl, alv, ac, fr, til⟩ now = FI at *
   generalize F (⟨src, fl, alv, ac, fr, til⟩, Value.slice fa fl.length fc) = G at *
   obtain ⟨us, uL, ql, qc, uf, ut⟩ := m
   dsimp only at kc
   have t0 := HS1.out.t0
   have t1 := HS1.out.t1
   obtain ⟨q0, q1, q2, q3, q4, q5⟩ := HS1.out.p
   obtain ⟨x0, x1, x2, x3, x4, x5⟩ := hx
   clear hmem hfk hfit hat hcell hBw hb1 hR hF hm hok HO HB hs1
   go_wp2_with fail
   refine kc.mono ?_
   rintro e w2 ⟨ua, ud, rfl, hFu, hOu, hb2⟩
   have hHB2 := HB1.out.trans (hb2.mono HB1.out.size)
   have hO2 := own_later HO1.out hb2
   have hX2 := HX1.out.later hb2 HL1.out
   have hL2 := Nat.lt_of_lt_of_le HL1.out hb2.size
   clear kc hb2 hFu hOu HO1 HB1 HS1 HX1 HL1 p0 p1 p2 p3 p4 p5 t0 t1 q0 q1 q2 q3 q4 q5 x0 x1 x2 x3 x4 x5 hW1
   have hb3 := alloc_below w2 (.cells #[.string us, .slice ua uL.length ud, .int .i64 ql, .int .u32 qc, .int .i64 uf, .int .i64 ut] 54)
   have HB3 := Lib.hid (hHB2.trans (hb3.mono hHB2.size))
   have HO3 := Lib.hid (own_later hO2 hb3)
   have HX3 := Lib.hid (hX2.later hb3 hL2)
   have HL3 := Lib.hid (Nat.lt_of_lt_of_le hL2 hb3.size)
   clear hb3 hHB2 hO2 hX2 hL2
   go_upto_region 6 with fail
   change Code.wp _ _ _ _ (w2.alloc (.cells #[.string us, .slice ua uL.length ud, .int .i64 ql, .int .u32 qc, .int .i64 uf, .int .i64 ut] 54))
   generalize w2.alloc (.cells #[.string us, .slice ua uL.length ud, .int .i64 ql, .int .u32 qc, .int .i64 uf, .int .i64 ut] 54) = w3 at *
   cases ok
   ·clear KR KF HX3 HL3
    have HN1 : Hid (idxTo F l (n + 1) = idxTo F l n) := Lib.hid (by rw [HST.out, show G = false from by rw [HG.out]; rfl]; simp)
    go_wp2
    go_roundw
    case rel => exact ⟨n + 1, by go_num, by omega, Lib.hid (by rw [HN1.out]; exact HO3.out), HB3⟩
    case measure => (simp [intOf]; try omega)
   ·obtain ⟨x0, x1, x2, x3, x4, x5⟩ := HX3.out
    have kr := KR.out w3 (HS0.out.below.trans (HB3.out.mono HS0.out.below.size))
    go_wp2_with fail
    refine kr.mono ?_
    rintro e w4 ⟨rfl, hb4⟩
    have HB4 := Lib.hid (HB3.out.trans (hb4.mono HB3.out.size))
    have HO4 := Lib.hid (own_later HO3.out hb4)
    have HX4 := Lib.hid (HX3.out.later hb4 HL3.out)
    clear kr hb4 x0 x1 x2 x3 x4 x5 HX3 HL3 HO3 HB3
    cases R
    ·clear KR KF HX4
     have HN1 : Hid (idxTo F l (n + 1) = idxTo F l n) := Lib.hid (by rw [HST.out, show G = false from by rw [HG.out]; rfl]; simp)
     go_wp2
     go_roundw
     case rel => exact ⟨n + 1, by go_num, by omega, Lib.hid (by rw [HN1.out]; exact HO4.out), HB4⟩
     case measure => (simp [intOf]; try omega)
    ·obtain ⟨x0, x1, x2, x3, x4, x5⟩ := HX4.out
     have kf := KF.out w4
     go_wp2_with fail
     refine kf.mono ?_
     rintro e w5 ⟨rfl, hb5⟩
     have hB5 := HB4.out.trans (hb5.mono HB4.out.size)
     have hO5 := own_later HO4.out hb5
     have HB5 := Lib.hid hB5
     have HO5 := Lib.hid hO5
     clear kf hb5 x0 x1 x2 x3 x4 x5 HX4 HO4 HB4
     cases FI
     ·clear KR KF hB5 hO5
      have HN1 : Hid (idxTo F l (n + 1) = idxTo F l n) := Lib.hid (by rw [HST.out, show G = false from by rw [HG.out]; rfl]; simp)
      go_wp2
      go_roundw
      case rel => exact ⟨n + 1, by go_num, by omega, Lib.hid (by rw [HN1.out]; exact HO5.out), HB5⟩
      case measure => (simp [intOf]; try omega)
     ·have HN1 : Hid (idxTo F l (n + 1) = idxTo F l n ++ [(n : Int)]) := Lib.hid (by rw [HST.out, show G = true from by rw [HG.out]; rfl]; simp)
      have hb8 := alloc_below w5 (.cells #[I n] 3)
      have hown8 := hO5.alloc (.cells #[I n] 3)
      have hsz8 := hB5.size
      clear hO5 KR KF
      go_wp2_with (at_builtin; (refine wpList_append_own _ rfl _ _ 38 rfl W0.heap.size 3 i0 (.int .i64 0) 1 8 Tryz.underlying38 hi hz0 hz1 hz2 rfl (by decide) _ _ _ rfl hown8 ⟨w5.heap.size, 0, none⟩ 1 1 [I n] rfl rfl (cell_one_new _ _ _) (by simp [Value.oneCell']) (by unfold maxLen; omega) (by omega) (by simp; omega) ?_); intro v' w8 hown' hg8 hnil8)
      have HB8 := Lib.hid ((hB5.trans (hb8.mono hB5.size)).grown hg8 (by simp; omega) (fun j e => (hown8.lt j e).1))
      have HO8 : Hid (w8.ownsRow W0.heap.size 3 1 v' (idxTo F l (n + 1)).length ((idxTo F l (n + 1)).map I)) := Lib.hid (by rw [HN1.out]; simpa using hown')
      clear hown' hg8 hnil8 hown8 hb8 hB5 HO5 HB5
      go_wp2
      go_roundw
      case rel => exact ⟨n + 1, by go_num, by omega, HO8, HB8⟩
      case measure => (simp [intOf]; try omega)
  ·obtain rfl : n = l.length := by omega
   go_wp2
   go_ret
   exact ⟨_, rfl, World.ownsRow.mono HO.out (by have := HS0.out.below.size; omega), HS0.out.below.trans (HB.out.mono HS0.out.below.size)⟩
end Go.Proofs.YtipnhpfpppblhaaGreat
/- slices.IndexFunc, slices.DeleteFunc of numbers, with inhibit.Left's closure: contracts. -/
namespace Go.Proofs.YtipnhpfpppblhaaGreat
open Go.RowKit
theorem int_range {w : World} {g o : Nat} {Y : List Int} (h : w.rangeAt g o (Y.map I)) {j : Nat} (hj : j < Y.length) : w.cell? ⟨g, o + j, none⟩ = some (.int .i64 Y[j]) :=
 h j _ (by rw [List.getElem?_map, List.getElem?_eq_getElem hj]; rfl)
theorem set_far {w : World} {p i b j : Nat} {v : Value} (h : ¬(p = b ∧ i = j)) : (w.setCell ⟨p, i, none⟩ v).cell? ⟨b, j, none⟩ = w.cell? ⟨b, j, none⟩ := by
 apply World.cell?_setCell_other
 intro e
 simp only [Addr.mk.injEq, and_true] at e
 exact h e
theorem there_set {w : World} {g n : Nat} (h : w.there g 0 n) (p i : Nat) (v : Value) : (w.setCell ⟨p, i, none⟩ v).there g 0 n := fun j hj => by
 obtain ⟨h1, h2⟩ := h j hj
 refine ⟨?_, ?_⟩
 ·by_cases e : (⟨p, i, none⟩ : Addr) = ⟨g, 0 + j, none⟩
  ·rw [e, World.cell?_setCell_same' _ _ _ h1]; rfl
  ·rw [set_far (fun h => e (by rw [h.1, h.2]))]; exact h1
 ·rw [World.frozen?_setCell]; exact h2
set_option maxHeartbeats 1600000 in
set_option maxRecDepth 100000 in
theorem idxL_any (l : List Int) (p : Int → Bool) (p1 p2 p3 p4 : Value) (v : Value) (w : World) (hv : IntsAt w v l) (hl : l.length ≤ 1000000)
  (hp : ∀ W, Below w.heap.size w W → ∀ x ∈ l, Calls Tryz.prog 35 #[.int .i64 x, p1, p2, p3, p4] W fun e w' => e = .returned (.bool (p x)) ∧ Below W.heap.size W w') :
  Calls Tryz.prog 70 #[v, .func (.func 35) #[] #[p1, p2, p3, p4]] w fun e w' =>
   ∃ i : Int, e = .returned (.int .i64 i) ∧ ((i = -1 ∧ ∀ x ∈ l, p x = false) ∨ ∃ (k : Nat) (h : k < l.length), i = k ∧ p l[k] = true ∧ ∀ x ∈ l.take k, p x = false) ∧ Below w.heap.size w w' := by
 have hent := enters_of Tryz.func35 (by kernel_rfl) rfl
 obtain ⟨a, c, rfl, hc, hr⟩ := RdAt.shape hv
 have HC : Hid (∀ j (hj : j < l.length), ∃ b o, a = some ⟨b, o, none⟩ ∧ b < w.heap.size ∧ w.cell? ⟨b, o + j, none⟩ = some (.int .i64 l[j])) := Lib.hid (fun j hj => by
  obtain ⟨b, o, rfl, hlt, hcell⟩ := hr (by omega)
  exact ⟨b, o, rfl, hlt, hcell j _ (by rw [List.getElem?_map, List.getElem?_eq_getElem hj]; rfl)⟩)
 have HP := Lib.hid hp
 clear hv hr hp
 go_enter Tryz.func70, Tryz.ntmps70
 go_wp2
 go_loopw [8] (fun vi wr => ∃ j : Nat, j ≤ l.length ∧ vi = .int .i64 j ∧ Hid (∀ k ∈ l.take j, p k = false) ∧ Hid (Below w.heap.size w wr)) (fun vi _ => l.length - (intOf vi).toNat)
 case atStart => exact ⟨0, Nat.zero_le _, rfl, Lib.hid (fun k hk => by simp at hk), Lib.hid (Below.refl _ _)⟩
 case round =>
  obtain ⟨j, hj, rfl, HN, HB⟩ := hrel
  by_cases hjl : j < l.length
  ·obtain ⟨b, o, rfl, hblt, hc0⟩ := HC.out j hjl
   obtain ⟨k, hk⟩ : ∃ k, l[j] = k := ⟨_, rfl⟩
   rw [hk] at hc0
   have d1 := keep_cell hc0 HB.out hblt
   have hcall := HP.out wr HB.out k (hk ▸ List.getElem_mem hjl)
   have HK := Lib.hid hk
   obtain ⟨q, hq⟩ : ∃ q, p k = q := ⟨_, rfl⟩
   rw [hq] at hcall
   have HQ := Lib.hid hq
   clear hc0 hk hq
   go_wp2_with fail
   refine hcall.mono ?_
   rintro e w2 ⟨rfl, hb2⟩
   have HB3 := Lib.hid (HB.out.trans (hb2.mono HB.out.size))
   clear hcall hb2
   cases q with
   | true =>
    go_wp2
    go_ret
    exact ⟨j, rfl, .inr ⟨j, hjl, rfl, by rw [HK.out]; exact HQ.out, HN.out⟩, HB3.out⟩
   | false =>
    have HN2 : Hid (∀ k ∈ l.take (j + 1), p k = false) := Lib.hid (fun q hq => by
     rw [List.take_succ_eq_append_getElem hjl] at hq
     rcases List.mem_append.1 hq with h1 | h1
     ·exact HN.out q h1
     ·rw [List.mem_singleton.1 h1, HK.out]; exact HQ.out)
    go_wp2
    go_roundw
    case rel => exact ⟨j + 1, by omega, by go_num, HN2, HB3⟩
    case measure => (simp [intOf]; try omega)
  ·obtain rfl : j = l.length := by omega
   go_wp2
   go_ret
   exact ⟨-1, rfl, .inl ⟨rfl, fun x hx => HN.out x (by rw [List.take_length]; exact hx)⟩, HB.out⟩
theorem filterI_step {p : Int → Bool} {l : List Int} {j : Nat} (h : j < l.length) : (l.take (j + 1)).filter (fun x => !p x) = (l.take j).filter (fun x => !p x) ++ (if p l[j] then [] else [l[j]]) := by
 rw [List.take_succ_eq_append_getElem h, List.filter_append]
 congr 1
 cases hp : p l[j] <;> simp [hp]
theorem zcI_len (n : Nat) : (Builtin.zeroCells (Value.int .i64 0).cells n).toList.length = n := by simp [Builtin.zeroCells, Value.cells]
theorem zcI_cell (n : Nat) : ∀ v ∈ (Builtin.zeroCells (Value.int .i64 0).cells n).toList, v.oneCell' = true := by
 intro v hv
 simp only [Builtin.zeroCells, Value.cells, Array.toList_map, List.mem_map] at hv
 obtain ⟨i, _, rfl⟩ := hv
 have h2 : i % (#[Value.int .i64 0] : Array Value).size < 1 := Nat.mod_lt _ (by decide)
 generalize i % (#[Value.int .i64 0] : Array Value).size = j at h2
 match j, h2 with
 | 0, _ => rfl
theorem rowI_put {w : World} {g n i : Nat} {Y : List Int} {x : Int} (h : w.rangeAt g 0 (Y.map I)) (ht : w.there g 0 n) (hn : Y.length = n) (hi : i < n) :
  (w.setCell ⟨g, i, none⟩ (.int .i64 x)).rangeAt g 0 ((Y.set i x).map I) ∧ (w.setCell ⟨g, i, none⟩ (.int .i64 x)).there g 0 n := by
 refine ⟨fun j v hj => ?_, there_set ht g i _⟩
 rw [Nat.zero_add]
 rw [List.getElem?_map] at hj
 by_cases hm : j = i
 ·subst hm
  rw [List.getElem?_set_self (by omega)] at hj
  have hs := (ht j hi).1
  rw [Nat.zero_add] at hs
  rw [World.cell?_setCell_same' _ _ _ hs, ← hj]; rfl
 ·rw [List.getElem?_set_ne (fun e => hm e.symm)] at hj
  rw [set_far (by omega)]
  have := h j v (by rw [List.getElem?_map]; exact hj)
  rwa [Nat.zero_add] at this
set_option maxHeartbeats 1600000 in
set_option maxRecDepth 100000 in
theorem delL_any (l : List Int) (p : Int → Bool) (p1 p2 p3 p4 : Value) (base : Nat) (v : Value) (w : World) (hown : w.ownsRow base 3 1 v l.length (l.map I)) (hbase : base ≤ w.heap.size) (hl : l.length ≤ 1000000)
  (hp : ∀ W, Below base w W → ∀ x ∈ l, Calls Tryz.prog 35 #[.int .i64 x, p1, p2, p3, p4] W fun e w' => e = .returned (.bool (p x)) ∧ Below W.heap.size W w') :
  Calls Tryz.prog 34 #[v, .func (.func 35) #[] #[p1, p2, p3, p4]] w fun e w' =>
   ∃ v', e = .returned v' ∧ IntsAt w' v' (l.filter fun x => !p x) ∧ Below base w w' := by
 have hent := enters_of Tryz.func35 (by kernel_rfl) rfl
 have hv : IntsAt w v l := RdAt.own hown
 have k1 := idxL_any l p p1 p2 p3 p4 v w hv hl (fun W hW x hx => hp W (hW.mono hbase) x hx)
 rcases hown.2 with ⟨rfl, h0⟩ | ⟨g, cap, cur, rfl, hgb, hg, hle, hcap, hsz, htk⟩
 ·have hnil : l = [] := List.length_eq_zero_iff.1 h0
  subst hnil
  clear hown hp hv
  go_enter Tryz.func34, Tryz.ntmps34
  go_wp2_with fail
  refine k1.mono ?_
  rintro e w1 ⟨i, rfl, hi, hb1⟩
  rcases hi with ⟨rfl, _⟩ | ⟨k, hk, _⟩
  ·clear k1
   have HB1 := Lib.hid (hb1.mono hbase)
   clear hb1
   go_wp2
   go_ret
   exact ⟨_, rfl, RdAt.nil _ _, HB1.out⟩
  ·exact absurd hk (Nat.not_lt_zero _)
 ·have hr0 : w.rangeAt g 0 (l.map I) := by
   intro j x hj
   obtain ⟨a, c, he, _, hr⟩ := RdAt.shape hv
   have hjl := (List.getElem?_eq_some_iff.1 hj).1
   rw [List.length_map] at hjl
   obtain ⟨b, o, hb, _, hcell⟩ := hr (by omega)
   cases he
   cases hb
   exact hcell j x hj
  have ht0 : w.there g 0 l.length := fun j hj => by
   refine ⟨World.rangeAt.isSome hr0 j (by rw [List.length_map]; exact hj), by simp [World.frozen?, hg]⟩
  have hglt : g < w.heap.size := (Array.getElem?_eq_some_iff.1 hg).1
  have HP := Lib.hid hp
  have HR0 := Lib.hid hr0
  have HTH0 := Lib.hid ht0
  have HV := Lib.hid hv
  clear hv hown hp hr0 ht0 hg htk hsz
  go_enter Tryz.func34, Tryz.ntmps34
  go_wp2_with fail
  refine k1.mono ?_
  rintro e w1 ⟨i, rfl, hi, hb1⟩
  have HR1 := Lib.hid (range_later HR0.out hb1 hglt)
  have HTH1 := Lib.hid (there_later HTH0.out hb1 hglt)
  have HB1 := Lib.hid (hb1.mono hbase)
  have HV1 := Lib.hid (HV.out.later hb1)
  clear k1 HR0 HTH0 hb1 HV
  rcases hi with ⟨rfl, hno⟩ | ⟨k, hk, rfl, hpk, hpn⟩
  ·have HN : Hid (l.filter (fun x => !p x) = l) := Lib.hid (List.filter_eq_self.2 (fun x hx => by rw [hno x hx]; rfl))
   clear hno
   go_wp2
   go_ret
   exact ⟨_, rfl, by rw [HN.out]; exact HV1.out, HB1.out⟩
  ·have hT1 : (l.take k).filter (fun x => !p x) = l.take k := List.filter_eq_self.2 (fun x hx => by rw [hpn x hx]; rfl)
   have HT2 : Hid (l.take k = (l.take (k + 1)).filter (fun x => !p x)) := Lib.hid (by rw [filterI_step hk, hT1, hpk]; simp)
   have hk1 : ((k : Int) == -1) = false := by rw [beq_eq_false_iff_ne]; omega
   clear hT1 hpk hpn HV1
   go_wp2
   go_loopw [5, 6] (fun vi vj wr => ∃ (i j : Nat) (Y : List Int), vi = .int .i64 i ∧ vj = .int .i64 j ∧ i < j ∧ j ≤ l.length ∧ Hid (Y.length = l.length) ∧ Hid (Y.take i = (l.take j).filter (fun x => !p x)) ∧ Hid (Y.drop j = l.drop j) ∧ Hid (wr.rangeAt g 0 (Y.map I)) ∧ Hid (wr.there g 0 l.length) ∧ Hid (Below base w wr))
    (fun _ vj _ => l.length - (intOf vj).toNat)
   case atStart => exact ⟨k, k + 1, l, rfl, by go_num, by omega, by omega, Lib.hid rfl, HT2, Lib.hid rfl, HR1, HTH1, HB1⟩
   case round =>
    clear HR1 HTH1 HB1 HT2
    obtain ⟨i, j, Y, rfl, rfl, hij, hjl, HY, HT, HD, HR, HTH, HB⟩ := hrel
    have hgr : g < wr.heap.size := Nat.lt_of_lt_of_le hglt HB.out.size
    by_cases hjj : j < l.length
    ·have hYj : Y[j]'(by have := HY.out; omega) = l[j] := by
      have h := congrArg (fun z => z[0]?) HD.out
      simp only [List.getElem?_drop, Nat.add_zero] at h
      rw [List.getElem?_eq_getElem hjj, List.getElem?_eq_getElem (by have := HY.out; omega)] at h
      exact Option.some.inj h
     have hc0 := int_range HR.out (j := j) (by have := HY.out; omega)
     rw [hYj, Nat.zero_add] at hc0
     obtain ⟨x, hx⟩ : ∃ x, l[j] = x := ⟨_, rfl⟩
     have hxm : x ∈ l := hx ▸ List.getElem_mem hjj
     rw [hx] at hc0
     have HX := Lib.hid hx
     have kp := HP.out wr HB.out x hxm
     obtain ⟨q, hq⟩ : ∃ q, p x = q := ⟨_, rfl⟩
     rw [hq] at kp
     have HQ := Lib.hid hq
     clear hq hx hYj hxm
     go_wp2_with fail
     refine kp.mono ?_
     rintro e w2 ⟨rfl, hb2⟩
     have HB2 := Lib.hid (HB.out.trans (hb2.mono (Nat.le_trans hbase HB.out.size)))
     have HR2 := Lib.hid (range_later HR.out hb2 hgr)
     have HT2 := Lib.hid (there_later HTH.out hb2 hgr)
     have HD2 : Hid (Y.drop (j + 1) = l.drop (j + 1)) := by
      show _ = _
      have h := congrArg (List.drop 1) HD.out
      rw [List.drop_drop, List.drop_drop] at h
      first | exact h | (rw [Nat.add_comm j 1]; exact h)
     cases q
     ·have c0 := int_range HR2.out (j := i) (by have := HY.out; omega)
      rw [Nat.zero_add] at c0
      have f0 := there_free HT2.out i (by omega)
      clear kp hb2 HR HTH HB hc0
      go_wp2
      go_roundw
      case rel =>
       have hYi : i < Y.length := by have := HY.out; omega
       have hlen : (Y.take i).length = i := by rw [List.length_take]; omega
       refine ⟨i + 1, j + 1, Y.set i x, by go_num, by go_num, by omega, by omega, Lib.hid (by rw [List.length_set]; exact HY.out), Lib.hid ?_, Lib.hid ?_, Lib.hid ?_, Lib.hid ?_, Lib.hid ?_⟩
       ·rw [filterI_step hjj, HX.out, HQ.out, ← HT.out]
        simp only [Bool.false_eq_true, if_false]
        apply List.ext_getElem?
        intro m
        rcases Nat.lt_trichotomy m i with hm | hm | hm
        ·rw [List.getElem?_take_of_lt (by omega), List.getElem?_set_ne (by omega), List.getElem?_append_left (by omega), List.getElem?_take_of_lt hm]
        ·subst hm
         rw [List.getElem?_take_of_lt (by omega), List.getElem?_set_self hYi, List.getElem?_append_right (by omega), hlen]; simp
        ·rw [List.getElem?_take_eq_none (by omega), List.getElem?_eq_none (by simp; omega)]
       ·apply List.ext_getElem?
        intro m
        have h := congrArg (fun z => z[m]?) HD2.out
        simp only [List.getElem?_drop] at h ⊢
        rw [List.getElem?_set_ne (by omega)]
        exact h
       ·exact (rowI_put HR2.out HT2.out HY.out (by omega)).1
       ·exact (rowI_put HR2.out HT2.out HY.out (by omega)).2
       ·exact below_put_base HB2.out hgb
      case measure => (simp [intOf]; try omega)
     ·clear kp hb2 HR HTH HB hc0
      go_wp2
      go_roundw
      case rel => exact ⟨i, j + 1, Y, rfl, by go_num, by omega, by omega, HY, Lib.hid (by rw [HT.out, filterI_step hjj, HX.out, HQ.out]; simp), HD2, HR2, HT2, HB2⟩
      case measure => (simp [intOf]; try omega)
    ·obtain rfl : j = l.length := by omega
     have hcl : ∀ ty, (Builtin.clear_ #[38] ty #[.slice (some ⟨g, i, none⟩) (l.length - i) (cap - i)]).run Tryz.prog wr = .ok (.tuple #[]) (wr.setCells g i (Builtin.zeroCells (Value.int .i64 0).cells (l.length - i)).toList) := fun ty =>
      run_clear_row wr 38 3 ty _ Tryz.underlying38 Tryz.zeroValue3 g i (l.length - i) (cap - i) (by omega) (fun j hj => by
       have := HTH.out (i + j) (by rw [zcI_len] at hj; omega)
       rw [Nat.zero_add] at this
       exact this) (zcI_cell _)
     have HZ := Lib.hid (zcI_len (l.length - i))
     generalize hzc : (Builtin.zeroCells (Value.int .i64 0).cells (l.length - i)).toList = zc at *
     go_wp2
     go_ret
     have hYl : (Y.take i).length = i := by rw [List.length_take, HY.out]; omega
     have hFl : l.filter (fun x => !p x) = Y.take i := by have := HT.out; rw [List.take_length] at this; exact this.symm
     refine ⟨_, rfl, ?_, below_puts_base HB.out hgb _⟩
     rw [hFl]
     unfold IntsAt
     rw [hYl]
     refine RdAt.mk (by rw [List.length_map, hYl]; omega) (by omega) ?_ (fun m y hm => ?_)
     ·have := (below_puts_base (o := i) HB.out hgb zc).size; omega
     ·have hml := (List.getElem?_eq_some_iff.1 hm).1
      rw [List.length_map, hYl] at hml
      rw [World.cell?_setCells_out _ _ _ _ _ (fun _ _ => by simp; omega)]
      have := HR.out m y (by rw [List.getElem?_map] at hm ⊢; rw [List.getElem?_take_of_lt (by omega)] at hm; exact hm)
      exact this
end Go.Proofs.YtipnhpfpppblhaaGreat
