/- digest.New, slices.Clone at bytes, digest.Sum.Now: contracts. -/
import Derived.Test.YtipnhpfpppblhaaShaAdd
import Derived.Deep.RegionHeld3
import Derived.Test.YtipnhpfpppblhaaHeldS
import Derived.Lib.SliceRun
namespace Go.Proofs.Ytipnhpfpppblhaa
open Go.RowKit

set_option maxHeartbeats 800000 in
theorem new_any (w : World) : Calls Try.prog 82 #[] w fun e w' => ∃ p, e = .returned (.pointer (some ⟨p, 0, none⟩)) ∧ w.heap.size ≤ p ∧ SumAt w' p startL (.slice none 0 0) 0 ∧ Below w.heap.size w w' := by
  go_enter Try.func82, Try.ntmps82
  go_wp2_with fail
  refine (start_any _).mono ?_
  rintro e w1 ⟨rfl, hb1⟩
  have hs : startV = #[V32 1779033703, V32 3144134277, V32 1013904242, V32 2773480762, V32 1359893119, V32 2600822924, V32 528734635, V32 1541459225] := rfl
  rw [hs]
  go_wp2
  go_ret
  exact ⟨w1.heap.size, rfl, hb1.size, ⟨rfl, heap_alloc_new _ _⟩, hb1.alloc hb1.size _⟩
theorem own_empty (w : World) (t : TypeId) : (w.alloc (.cells #[] t)).ownsRow w.heap.size t 1 (.slice (some ⟨w.heap.size, 0, none⟩) 0 0) 0 [] :=
  ⟨rfl, .inr ⟨w.heap.size, 0, #[], rfl, Nat.le_refl _, heap_alloc_new _ _, Nat.le_refl _, by decide, rfl, rfl⟩⟩
set_option maxHeartbeats 800000 in
set_option maxRecDepth 100000 in
theorem clone8 (l : List Int) (w : World) (v : Value) (h : ByAt w v l) (hl : l.length ≤ 140737488355328) :
    Calls Try.prog 102 #[v] w fun e w' => ∃ v', e = .returned v' ∧ w'.ownsRow w.heap.size 5 1 v' l.length (l.map V8) ∧ Below w.heap.size w w' := by
  obtain ⟨i0, hi, hz0, hz1, hz2⟩ := info_parts info_u8
  have q22 : ∀ (w : World) (a : Option Addr) (n c n' c' : Nat), (binOp .eql 103 (.slice a n c) (.slice none n' c')).run Try.prog w = .ok (.bool a.isNone) w := fun w a n c n' c' => Lib.run_eql_slice_nil w _ _ a n c n' c' Try.underlying103
  rcases h.2 with ⟨rfl, h0⟩ | ⟨a, c, rfl, hc, hr⟩
  · have hnil : l = [] := List.length_eq_zero_iff.1 h0
    subst hnil
    go_enter Try.func102, Try.ntmps102
    go_wp2
    go_ret
    exact ⟨_, rfl, World.ownsRow_nil _ _ _ _, Below.refl _ _⟩
  · have h1 := h.later (alloc_below w (.cells #[] 5))
    have h2 := own_empty w 5
    have hb := alloc_below w (.cells #[] 5)
    go_enter Try.func102, Try.ntmps102
    go_wp2_with (at_builtin; (refine wpList_append_rd rfl (.tmp 5) (.tmp 6) 103 rfl w.heap.size 5 i0 (.int .u8 0) 1 1 Try.underlying103 hi hz0 hz1 hz2 rfl (by decide) _ 0 [] rfl h2 _ l.length (l.map V8) rfl h1 (v8_cells l) (by unfold maxLen; omega) (by omega) (by simp) ?_); intro v2 w2 hown2 hgrow2)
    go_ret
    refine ⟨_, rfl, ?_, hb.grown hgrow2 hb.size (fun k hk => (h2.lt k hk).1)⟩
    have e : 0 + l.length = l.length := Nat.zero_add _
    rw [e] at hown2
    exact hown2
theorem rd_one8 (w : World) (x : Value) (t : TypeId) : RdAt (w.alloc (.cells #[x] t)) (.slice (some ⟨w.heap.size, 0, none⟩) 1 1) 1 1 [x] :=
  RdAt.mk rfl (Nat.le_refl _) (by rw [World.size_alloc]; omega) (fun j y hj => by
    have hj0 : j = 0 := by have := (List.getElem?_eq_some_iff.1 hj).1; simpa using this
    subst hj0
    have := cell_one_new w x t 0 y hj
    simpa [Addr.add] using this)
/-- the first k bytes of the count -/
def lenL (N : Int) (k : Nat) : List Int := (List.range k).map (fun (i : Nat) => N / 2 ^ (56 - 8 * i) % 256)
theorem lenL_succ (N : Int) (k : Nat) : lenL N (k + 1) = lenL N k ++ [N / 2 ^ (56 - 8 * k) % 256] := by simp [lenL, List.range_succ]
/-- byte j of what comes out -/
def outAt (X : List Int) (j : Nat) : Int := X.getD (j / 4) 0 / 2 ^ (24 - 8 * (j % 4)) % 256
def outL (X : List Int) (k : Nat) : List Int := (List.range k).map (outAt X)
theorem outL_succ (X : List Int) (k : Nat) : outL X (k + 1) = outL X k ++ [outAt X k] := by simp [outL, List.range_succ]
/-- a row of 32 bytes, of which the first are laid -/
def ORow (w : World) (g : Nat) (S : List Int) : Prop := S.length ≤ 32 ∧ w.heap[g]? = some (.cells ((S.map V8 ++ List.replicate (32 - S.length) (V8 0)).toArray) 106 (0, 0))
theorem outL_len (X : List Int) (k : Nat) : (outL X k).length = k := by simp [outL]
theorem orow_new {w : World} {g : Nat} (h : w.heap[g]? = some (.cells (Array.replicate 32 (.int .u8 0)) 106 (0, 0))) (X : List Int) : ORow w g (outL X 0) := ⟨by simp [outL], by rw [h]; rfl⟩
theorem ORow.free {w : World} {g : Nat} {S : List Int} (h : ORow w g S) (j : Nat) : w.frozen? ⟨g, j, none⟩ = false := by simp [World.frozen?, h.2]
theorem ORow.old {w : World} {g : Nat} {S : List Int} (h : ORow w g S) (k : Nat) (hk : S.length = k) (hj : k < 32) : w.cell? ⟨g, k, none⟩ = some (V8 0) := by
  subst hk
  rw [cell_row h.2, List.getElem?_toArray, List.getElem?_append_right (by simp)]
  rw [List.length_map, Nat.sub_self, List.getElem?_replicate, if_pos (by omega)]
theorem ORow.store {w : World} {g : Nat} {S : List Int} (h : ORow w g S) {k : Nat} (hk : S.length = k) (hj : k < 32) (x : Int) : ORow (w.setCell ⟨g, k, none⟩ (V8 x)) g (S ++ [x]) := by
  subst hk
  refine ⟨by simp; omega, ?_⟩
  rw [heap_setCell_same w g S.length _ _ _ h.2]
  have e : 32 - S.length = (32 - (S ++ [x]).length) + 1 := by simp; omega
  rw [e, List.replicate_succ]
  congr 2
  simp [List.setIfInBounds_toArray]
/-- the bytes with what is put behind them: 128, m zeros, the count -/
def padL (rb : List Int) (m : Nat) (cnt : Int) : List Int := rb ++ [128] ++ List.replicate m 0 ++ lenL (IntKind.u64.wrap (IntKind.u64.wrap cnt * 8)) 8
/-- how many zeros -/
def padN (n : Nat) : Nat := if n < 56 then 55 - n else 119 - n
theorem padN_eq {n m : Nat} (h64 : m < 64) (h : (n + 1 + m) % 64 = 56) (hn : n < 64) : m = padN n := by
  unfold padN; split <;> omega
/-- what comes out of a block of words and of padded bytes -/
def sumOut (V bs : List Int) : List Int := outL (blocksL V bs (bs.length / 64)) 32
theorem pad_bytes {rb : List Int} (hB : ByteL rb) (m : Nat) (N : Int) : ByteL ((rb ++ [128] ++ List.replicate m 0 ++ lenL N 8) ++ []) := by
  intro x hx
  rw [List.append_nil] at hx
  simp only [List.mem_append] at hx
  rcases hx with ((h | h) | h) | h
  · exact hB x h
  · obtain rfl := List.mem_singleton.1 h
    omega
  · obtain rfl := (List.mem_replicate.1 h).2
    omega
  · simp only [lenL, List.mem_map] at h
    obtain ⟨j, _, rfl⟩ := h
    omega
set_option maxHeartbeats 4000000 in
set_option maxRecDepth 100000 in
theorem now_any (V rb : List Int) (cnt : Int) (rv : Value) (p : Nat) (w : World) (hS : SumAt w p V rv cnt) (hr : ByAt w rv rb) (hB : ByteL rb) (hl : rb.length < 64) :
    Calls Try.prog 84 #[.pointer (some ⟨p, 0, none⟩)] w fun e w' => e = .returned (.agg ((sumOut V (padL rb (padN rb.length) cnt)).map V8).toArray) ∧ Below w.heap.size w w' := by
  obtain ⟨h0, h1, h2, h3, h4, h5, h6, h7, rfl⟩ : ∃ h0 h1 h2 h3 h4 h5 h6 h7, V = [h0, h1, h2, h3, h4, h5, h6, h7] := by
    have hl := hS.1
    match V, hl with
    | [a, b, c, d, e, f, g, h], _ => exact ⟨a, b, c, d, e, f, g, h, rfl⟩
  obtain ⟨i0, hi, hz0, hz1, hz2⟩ := info_parts info_u8
  obtain ⟨ra, rc, rfl, _, _⟩ := RdAt.shape hr
  have hb0 := alloc_below w (.cells (Array.replicate 32 (.int .u8 0)) 106)
  have hS0 := hS.later hb0
  have hr0 := hr.later hb0
  have hR0 : (w.alloc (.cells (Array.replicate 32 (.int .u8 0)) 106)).heap[w.heap.size]? = some (.cells (Array.replicate 32 (.int .u8 0)) 106 (0, 0)) := heap_alloc_new _ _
  have hsz0 := Lib.hid (World.size_alloc w (.cells (Array.replicate 32 (.int .u8 0)) 106))
  clear hS hr
  go_enter Try.func84, Try.ntmps84
  go_upto_region 3 with fail
  change Code.wp _ _ _ _ (w.alloc (.cells (Array.replicate 32 (.int .u8 0)) 106))
  generalize w.alloc (.cells (Array.replicate 32 (.int .u8 0)) 106) = w0 at *
  have hp0 := hS0.lt
  have g : w0.cell? ⟨p, 0, none⟩ = some (V32 h0) ∧ w0.cell? ⟨p, 1, none⟩ = some (V32 h1) ∧ w0.cell? ⟨p, 2, none⟩ = some (V32 h2) ∧ w0.cell? ⟨p, 3, none⟩ = some (V32 h3) ∧ w0.cell? ⟨p, 4, none⟩ = some (V32 h4) ∧ w0.cell? ⟨p, 5, none⟩ = some (V32 h5) ∧ w0.cell? ⟨p, 6, none⟩ = some (V32 h6) ∧ w0.cell? ⟨p, 7, none⟩ = some (V32 h7) ∧ w0.cell? ⟨p, 8, none⟩ = some (.slice ra rb.length rc) :=
    ⟨hS0.word 0 (by decide), hS0.word 1 (by decide), hS0.word 2 (by decide), hS0.word 3 (by decide), hS0.word 4 (by decide), hS0.word 5 (by decide), hS0.word 6 (by decide), hS0.word 7 (by decide), hS0.rest⟩
  have KS : ∀ W, Below w0.heap.size w0 W → W.cell? ⟨p, 0, none⟩ = some (V32 h0) ∧ W.cell? ⟨p, 1, none⟩ = some (V32 h1) ∧ W.cell? ⟨p, 2, none⟩ = some (V32 h2) ∧ W.cell? ⟨p, 3, none⟩ = some (V32 h3) ∧ W.cell? ⟨p, 4, none⟩ = some (V32 h4) ∧ W.cell? ⟨p, 5, none⟩ = some (V32 h5) ∧ W.cell? ⟨p, 6, none⟩ = some (V32 h6) ∧ W.cell? ⟨p, 7, none⟩ = some (V32 h7) ∧ W.cell? ⟨p, 8, none⟩ = some (.slice ra rb.length rc) := fun W hb =>
    ⟨keep_cell g.1 hb hp0, keep_cell g.2.1 hb hp0, keep_cell g.2.2.1 hb hp0, keep_cell g.2.2.2.1 hb hp0, keep_cell g.2.2.2.2.1 hb hp0, keep_cell g.2.2.2.2.2.1 hb hp0, keep_cell g.2.2.2.2.2.2.1 hb hp0, keep_cell g.2.2.2.2.2.2.2.1 hb hp0, keep_cell g.2.2.2.2.2.2.2.2 hb hp0⟩
  have hcl : ∀ W, Below w0.heap.size w0 W → Calls Try.prog 102 #[.slice ra rb.length rc] W fun e w' => ∃ v', e = .returned v' ∧ w'.ownsRow w0.heap.size 5 1 v' rb.length (rb.map V8) ∧ Below W.heap.size W w' := fun W hb => (clone8 rb W _ (hr0.later hb) (by omega)).mono (fun e w' ⟨v', h1, h2, h3⟩ => ⟨v', h1, own_base h2 hb.size, h3⟩)
  have HKS := Lib.hid KS
  have HCL := Lib.hid hcl
  have HG := Lib.hid g
  clear KS hcl g
  go_cut [3] (fun s3 wx => ∃ E v2, s3 = .pointer (some ⟨E, 0, none⟩) ∧ w0.heap.size ≤ E ∧ SumAt wx E [h0, h1, h2, h3, h4, h5, h6, h7] v2 0 ∧ wx.ownsRow w0.heap.size 5 1 v2 (rb.length + 1) ((rb ++ [128]).map V8) ∧ Below w0.heap.size w0 wx)
  case first =>
    go_region_held3 (fun w' => w'.cell? ⟨p, 0, none⟩ = some (V32 h0) ∧ w'.cell? ⟨p, 1, none⟩ = some (V32 h1) ∧ w'.cell? ⟨p, 2, none⟩ = some (V32 h2) ∧ w'.cell? ⟨p, 3, none⟩ = some (V32 h3) ∧ w'.cell? ⟨p, 4, none⟩ = some (V32 h4) ∧ w'.cell? ⟨p, 5, none⟩ = some (V32 h5) ∧ w'.cell? ⟨p, 6, none⟩ = some (V32 h6) ∧ w'.cell? ⟨p, 7, none⟩ = some (V32 h7) ∧ w'.cell? ⟨p, 8, none⟩ = some (.slice ra rb.length rc))
      (first | exact HG.out | exact HKS.out _ ((Below.refl _ _).drew) | exact HKS.out _ (((Below.refl w0.heap.size w0).drew).alloc (Nat.le_refl _) _) | exact HKS.out _ hB2 | exact HKS.out _ hB1 | exact HKS.out _ (hB1.alloc hB1.size _) | exact HKS.out _ (hB2.alloc hB2.size _))
      (first
        | (refine step_append_rd (by rfl) (.tmp 19) (.tmp 20) _ (by rfl) w0.heap.size 5 i0 (.int .u8 0) 1 1 Try.underlying103 hi hz0 hz1 hz2 rfl (by decide) _ rb.length (rb.map V8) (by rfl) (by first | exact hown1 | exact own_later hown1 ((Below.refl _ _).alloc (Nat.le_refl _) _)) _ 1 [V8 128] (by rfl) (by first | exact rd_one8 w1 (V8 128) 5 | exact RdAt.later (w := (w0.alloc (.cells #[V8 128] 5)).drew) (rd_one8 w0 (V8 128) 5) hb1) (by simp [Value.oneCell']) (by unfold maxLen; omega) (by omega) (by first | exact hB1.size | exact Nat.le_trans hB1.size (by simp)) ?_; intro v2 w2 hown2 hgrow2 _; obtain ⟨a2, c2, rfl, _, _⟩ := RdAt.shape (RdAt.own hown2); have hB2 : Below w0.heap.size w0 w2 := by first | exact hB1.grown hgrow2 hB1.size (fun m hm => (hown1.lt m hm).1) | exact (hB1.alloc hB1.size _).grown hgrow2 (Nat.le_trans hB1.size (by simp)) (fun m hm => (hown1.lt m hm).1))
        | (go_at_call 102; refine (HCL.out _ (by first | exact (Below.refl _ _).drew | exact ((Below.refl w0.heap.size w0).drew).alloc (Nat.le_refl _) _)).mono ?_; rintro e w1 ⟨v1, rfl, hown1, hb1⟩; have hB1 : Below w0.heap.size w0 w1 := by first | exact ((Below.refl _ _).drew).trans hb1 | exact (((Below.refl w0.heap.size w0).drew).alloc (Nat.le_refl _) _).trans (hb1.mono (by simp))))
    all_goals (
      clear hown1 hgrow2 hb1 hB1
      go_wp2
      go_meet
      exact ⟨_, _, rfl, hB2.size, ⟨rfl, heap_alloc_new _ _⟩, by rw [List.map_append]; exact own_later hown2 (alloc_below _ _), hB2.alloc hB2.size _⟩)
  case rest =>
    obtain ⟨E, v2, rfl, hE, hSE, hown, hbE⟩ := hcut
    obtain ⟨M, hM1, hM2⟩ : ∃ M, (rb.length + 1 + M) % 64 = 56 ∧ ∀ m, m < M → (rb.length + 1 + m) % 64 ≠ 56 := by
      rcases Nat.lt_or_ge 55 rb.length with h | h
      · exact ⟨119 - rb.length, by omega, fun m hm => by omega⟩
      · exact ⟨55 - rb.length, by omega, fun m hm => by omega⟩
    have hM64 : M < 64 := by
      rcases Nat.lt_or_ge M 64 with h | h
      · exact h
      · rcases Nat.lt_or_ge 55 rb.length with h' | h'
        · exact absurd (by omega) (hM2 (119 - rb.length) (by omega))
        · exact absurd (by omega) (hM2 (55 - rb.length) (by omega))
    have HR0 := Lib.hid hR0
    have hSE' := Lib.hid hSE
    have hown' := Lib.hid hown
    have HS0 := Lib.hid hS0
    clear hSE hown HKS HCL HG hS0 hr0 hR0
    go_wp2
    go_loopw [24] (fun _ wr => ∃ (m n : Nat) (v : Value), m ≤ M ∧ n = rb.length + 1 + m ∧ Hid (SumAt wr E [h0, h1, h2, h3, h4, h5, h6, h7] v 0) ∧ Hid (wr.ownsRow w0.heap.size 5 1 v n ((rb ++ [128] ++ List.replicate m 0).map V8)) ∧ Below w0.heap.size w0 wr) (fun _ wr => rb.length + 1 + M - restLen wr E)
    case atStart => exact ⟨0, rb.length + 1, v2, Nat.zero_le _, rfl, hSE', Lib.hid (by simpa using hown'.out), hbE⟩
    case round =>
      obtain ⟨m, n, v, hm, hn, HS, HO, hbr⟩ := hrel
      have HNn := Lib.hid hn
      have hn70 : n ≤ 200 := by omega
      clear hn
      obtain ⟨a2, c2, rfl, hc2, _⟩ := RdAt.shape (RdAt.own HO.out)
      have g8 := HS.out.rest
      have hrl := HS.out.restLen
      have hne1 : (Value.slice a2 n c2).ownBlock ≠ some E := row_apart HO.out HS.out.2 (by decide)
      by_cases hmM : m < M
      · have hne := hM2 m hmM
        have hnb : ((n : Int) % 64 != 56) = true := by rw [bne_iff_ne]; have := HNn.out; omega
        have hrd := rd_one8 wr (V8 0) 5
        have hoa := own_later HO.out (alloc_below wr (.cells #[V8 0] 5))
        have hSa := HS.out.later (alloc_below wr (.cells #[V8 0] 5))
        have hba := hbr.alloc hbr.size (.cells #[V8 0] 5)
        go_wp2_with (at_builtin; (refine wpList_append_rd rfl (.tmp 35) (.tmp 36) 103 rfl w0.heap.size 5 i0 (.int .u8 0) 1 1 Try.underlying103 hi hz0 hz1 hz2 rfl (by decide) _ _ _ rfl hoa _ 1 [V8 0] rfl hrd (by simp [Value.oneCell']) (by unfold maxLen; omega) (by omega) hba.size ?_); intro v3 w3 hown3 hgrow3; obtain ⟨a3, c3, rfl, _, _⟩ := RdAt.shape (RdAt.own hown3); have hS3 := hSa.of_heap (hgrow3.block E hSa.lt (fun e => hne1 e.symm)); have g8' := hS3.rest; have f8' := hS3.free 8)
        have hb3 := hba.grown hgrow3 hba.size (fun k hk => (hoa.lt k hk).1)
        have hne3 := row_apart hown3 hS3.2 (by decide)
        have hS4 := Lib.hid (hS3.setRest (.slice a3 (n + 1) c3))
        have hg4 := grown_setCell w3 E 8 (.slice a3 (n + 1) c3)
        have hO4 := Lib.hid (hown3.kept hg4 (.inr hne3))
        have hb4 := hb3.trans (below_row hg4 hE hb3.size)
        have hrl4 := hS4.out.restLen
        clear hS3 g8' f8' hown3 hgrow3 hg4 hoa hSa hba hrd
        generalize w3.setCell ⟨E, 8, none⟩ (.slice a3 (n + 1) c3) = w4 at *
        go_wp2
        go_roundw
        case rel =>
          refine ⟨m + 1, n + 1, _, by omega, by have := HNn.out; omega, hS4, Lib.hid ?_, hb4⟩
          have := hO4.out
          rw [List.replicate_succ', ← List.append_assoc, List.map_append]
          exact this
        case measure => rw [hrl4, hrl]; have := HNn.out; omega
      · obtain rfl : m = M := by omega
        have hnb : ((n : Int) % 64 != 56) = false := by rw [bne_eq_false_iff_eq]; have := HNn.out; omega
        have g9 := (HS0.out.later hbr).count
        go_wp2
        have HM56 := Lib.hid hM1
        have HM64 := Lib.hid hM64
        clear g8 hrl hne1 hnb hM1 hM2 hM64 hm hmM g9 hown' hSE' HNn
        obtain ⟨N, hN⟩ : ∃ N, IntKind.u64.wrap (IntKind.u64.wrap cnt * 8) = N := ⟨_, rfl⟩
        rw [hN]
        have HN := Lib.hid hN
        clear hN
        obtain ⟨L, hL⟩ : ∃ L, rb ++ [128] ++ List.replicate m 0 = L := ⟨_, rfl⟩
        have HL := Lib.hid hL
        rw [hL] at HO
        clear hL
        have HBL : Hid (ByteL ((L ++ lenL N 8) ++ [])) := Lib.hid (by rw [← HL.out]; exact pad_bytes hB m N)
        go_loopw [46] (fun i wr => ∃ (k n' : Nat) (v : Value), k ≤ 8 ∧ i = .int .i64 k ∧ n' = n + k ∧ Hid (SumAt wr E [h0, h1, h2, h3, h4, h5, h6, h7] v 0) ∧ Hid (wr.ownsRow w0.heap.size 5 1 v n' ((L ++ lenL N k).map V8)) ∧ Below w0.heap.size w0 wr) (fun i _ => 8 - (intOf i).toNat)
        case atStart => exact ⟨0, n, _, Nat.zero_le _, rfl, rfl, HS, Lib.hid (by simpa [lenL] using HO.out), hbr⟩
        case round =>
          clear HS HO hbr
          obtain ⟨k, n', v, hk, rfl, hn', HS, HO, hbr⟩ := hrel
          have hn270 : n' ≤ 300 := by omega
          have HNn := Lib.hid hn'
          clear hn'
          obtain ⟨a2, c2, rfl, hc2, _⟩ := RdAt.shape (RdAt.own HO.out)
          have g8 := HS.out.rest
          have hne1 : (Value.slice a2 n' c2).ownBlock ≠ some E := row_apart HO.out HS.out.2 (by decide)
          by_cases hk8 : k < 8
          · have hI : (k : Int) < 8 := by omega
            have q1 : IntKind.i64.wrap (8 * (k : Int)) = 8 * (k : Int) := by rw [IntKind.wrap_i64]; omega
            obtain ⟨s, hs⟩ : ∃ s, 56 - 8 * (k : Int) = s := ⟨_, rfl⟩
            have q2 : IntKind.i64.wrap (56 - 8 * (k : Int)) = s := by rw [IntKind.wrap_i64]; omega
            have hs0 : 0 ≤ s := by omega
            have hs1 : s ≤ 64 := by omega
            obtain ⟨x, hx⟩ : ∃ x, IntKind.u8.wrap (N / 2 ^ s.toNat) = x := ⟨_, rfl⟩
            have HX : Hid (x = N / 2 ^ (56 - 8 * k) % 256) := Lib.hid (by rw [← hx, IntKind.wrap_u8']; congr 2; congr 1; omega)
            have hrd := rd_one8 wr (V8 x) 5
            have hoa := own_later HO.out (alloc_below wr (.cells #[V8 x] 5))
            have hSa := HS.out.later (alloc_below wr (.cells #[V8 x] 5))
            have hba := hbr.alloc hbr.size (.cells #[V8 x] 5)
            clear hs
            go_upto_region 10 with fail
            refine wp_region_heldS 15 (S := fun W : World => W.cell? ⟨E, 8, none⟩ = some (.slice a2 n' c2)) (by kernel_rfl) g8 (fun hHeld => ?_)
            refine heldS_take (i := 0) (v := ?_) rfl rfl (by kernel_rfl) (by kernel_rfl) (by kernel_rfl) (by kernel_rfl) (by kernel_rfl) (fun _ _ _ h => h) (by rfl) hHeld ?_ ?_
            rotate_left
            · rintro wh hcw
              go_simp
              (try with_reducible rfl)
            simp only [Act.put, List.setIfInBounds_toArray, List.set_cons_zero, List.set_cons_succ]
            refine heldS_take (i := 1) (v := ?_) rfl rfl (by kernel_rfl) (by kernel_rfl) (by kernel_rfl) (by kernel_rfl) (by kernel_rfl) (fun _ _ _ h => h) (by rfl) hHeld ?_ ?_
            rotate_left
            · rintro wh hcw
              go_simp
              (try with_reducible rfl)
            simp only [Act.put, List.setIfInBounds_toArray, List.set_cons_zero, List.set_cons_succ]
            refine heldS_take (i := 2) (v := ?_) rfl rfl (by kernel_rfl) (by kernel_rfl) (by kernel_rfl) (by kernel_rfl) (by kernel_rfl) (fun _ _ _ h => h) (by rfl) hHeld ?_ ?_
            rotate_left
            · rintro wh hcw
              go_simp
              (try with_reducible rfl)
            simp only [Act.put, List.setIfInBounds_toArray, List.set_cons_zero, List.set_cons_succ]
            refine heldS_take (i := 3) (v := ?_) rfl rfl (by kernel_rfl) (by kernel_rfl) (by kernel_rfl) (by kernel_rfl) (by kernel_rfl) (fun _ _ _ h => h) (by rfl) hHeld ?_ ?_
            rotate_left
            · rintro wh hcw
              go_simp
              (try with_reducible rfl)
            simp only [Act.put, List.setIfInBounds_toArray, List.set_cons_zero, List.set_cons_succ]
            refine heldS_take (i := 4) (v := ?_) rfl rfl (by kernel_rfl) (by kernel_rfl) (by kernel_rfl) (by kernel_rfl) (by kernel_rfl) (fun _ _ _ h => h) (by rfl) hHeld ?_ ?_
            rotate_left
            · rintro wh hcw
              go_simp
              (try with_reducible rfl)
            simp only [Act.put, List.setIfInBounds_toArray, List.set_cons_zero, List.set_cons_succ]
            refine heldS_take (i := 5) (v := ?_) rfl rfl (by kernel_rfl) (by kernel_rfl) (by kernel_rfl) (by kernel_rfl) (by kernel_rfl) (fun _ _ _ h => h) (by rfl) hHeld ?_ ?_
            rotate_left
            · rintro wh hcw
              go_simp
              (try with_reducible rfl)
            simp only [Act.put, List.setIfInBounds_toArray, List.set_cons_zero, List.set_cons_succ]
            refine heldS_take (i := 6) (v := ?_) rfl rfl (by kernel_rfl) (by kernel_rfl) (by kernel_rfl) (by kernel_rfl) (by kernel_rfl) (fun _ _ _ h => h) (by rfl) hHeld ?_ ?_
            rotate_left
            · rintro wh hcw
              go_simp
              (try with_reducible rfl)
            simp only [Act.put, List.setIfInBounds_toArray, List.set_cons_zero, List.set_cons_succ]
            refine heldS_take (i := 7) (v := ?_) rfl rfl (by kernel_rfl) (by kernel_rfl) (by kernel_rfl) (by kernel_rfl) (by kernel_rfl) (fun _ _ _ h => h) (by rfl) hHeld ?_ ?_
            rotate_left
            · rintro wh hcw
              go_simp
              (try with_reducible rfl)
            simp only [Act.put, List.setIfInBounds_toArray, List.set_cons_zero, List.set_cons_succ]
            refine heldS_take (i := 8) (v := ?_) rfl rfl (by kernel_rfl) (by kernel_rfl) (by kernel_rfl) (by kernel_rfl) (by kernel_rfl) (fun _ _ _ h => h) (by rfl) hHeld ?_ ?_
            rotate_left
            · rintro wh hcw
              go_simp
              (try with_reducible rfl)
            simp only [Act.put, List.setIfInBounds_toArray, List.set_cons_zero, List.set_cons_succ]
            refine heldS_take (i := 9) (v := ?_) rfl rfl (by kernel_rfl) (by kernel_rfl) (by kernel_rfl) (by kernel_rfl) (by kernel_rfl) (fun _ _ _ h => h) (by rfl) hHeld ?_ ?_
            rotate_left
            · rintro wh hcw
              go_simp
              (try with_reducible rfl)
            simp only [Act.put, List.setIfInBounds_toArray, List.set_cons_zero, List.set_cons_succ]
            refine heldS_take (i := 10) (v := ?_) rfl rfl (by kernel_rfl) (by kernel_rfl) (by kernel_rfl) (by kernel_rfl) (by kernel_rfl) (fun _ _ _ h => h) (by rfl) hHeld ?_ ?_
            rotate_left
            · rintro wh hcw
              go_simp
              (try with_reducible rfl)
            simp only [Act.put, List.setIfInBounds_toArray, List.set_cons_zero, List.set_cons_succ]
            refine heldS_step (i := 11) rfl (by kernel_rfl) (fun K hK => ?_)
            go_simp
            refine hK.out _ _ hSa.rest (fun hHeld => ?_)
            clear hK K
            (try simp only [Act.put, List.setIfInBounds_toArray])
            refine heldS_step (i := 12) rfl (by kernel_rfl) (fun K hK => ?_)
            (refine step_append_rd (by rfl) (.tmp 53) (.tmp 60) _ (by rfl) w0.heap.size 5 i0 (.int .u8 0) 1 1 Try.underlying103 hi hz0 hz1 hz2 rfl (by decide) _ _ _ (by rfl) hoa _ 1 [V8 x] (by rfl) hrd (by simp [Value.oneCell']) (by unfold maxLen; omega) (by omega) hba.size ?_); intro v3 w3 hown3 hgrow3 _; obtain ⟨a3, c3, rfl, _, _⟩ := RdAt.shape (RdAt.own hown3); have hS3 := hSa.of_heap (hgrow3.block E hSa.lt (fun e => hne1 e.symm)); have g8' := hS3.rest; have f8' := hS3.free 8
            refine hK.out _ _ g8' (fun hHeld => ?_)
            clear hK K
            (try simp only [Act.put, List.setIfInBounds_toArray])
            refine heldS_step (i := 13) rfl (by kernel_rfl) (fun K hK => ?_)
            go_simp
            refine hK.out _ _ g8' (fun hHeld => ?_)
            clear hK K
            (try simp only [Act.put, List.setIfInBounds_toArray])
            refine heldS_step (i := 14) rfl (by kernel_rfl) (fun K hK => ?_)
            go_simp
            refine hK.out _ _ g8' (fun hHeld => ?_)
            clear hK K
            (try simp only [Act.put, List.setIfInBounds_toArray])
            refine heldS_last (i := 15) rfl (by kernel_rfl) (by kernel_rfl) (fun K hK => ?_)
            go_simp
            refine hK.out _ _ ?_
            clear hK K
            (try simp only [Act.put, List.setIfInBounds_toArray])
            refine wpAnyEnd_done (by kernel_rfl) ?_ _
            have hb3 := hba.drew.grown hgrow3 hba.size (fun k hk => (hoa.lt k hk).1)
            have hne3 := row_apart hown3 hS3.2 (by decide)
            have hS4 := Lib.hid (hS3.setRest (.slice a3 (n' + 1) c3))
            have hg4 := grown_setCell w3 E 8 (.slice a3 (n' + 1) c3)
            have hO4 := Lib.hid (hown3.kept hg4 (.inr hne3))
            have hb4 := hb3.trans (below_row hg4 hE hb3.size)
            clear hS3 g8' f8' hown3 hgrow3 hg4 hoa hSa hba hrd g8 hb3 hne3 HS HO hbr hHeld q1 q2 hs0 hs1 hx
            change Exit.inBlock _ _ _ _ (w3.setCell ⟨E, 8, none⟩ (.slice a3 (n' + 1) c3))
            generalize w3.setCell ⟨E, 8, none⟩ (.slice a3 (n' + 1) c3) = w4 at *
            go_wp2
            go_roundw
            case rel =>
              refine ⟨k + 1, n' + 1, _, by omega, by go_num, by have := HNn.out; omega, hS4, Lib.hid ?_, hb4⟩
              rw [lenL_succ, ← HX.out, ← List.append_assoc, List.map_append]
              exact hO4.out
            case measure => (simp [intOf]; try omega)
          · obtain rfl : k = 8 := by omega
            rw [show ((8 : Nat) : Int) = 8 from rfl]
            have hLl : Hid ((L ++ lenL N 8).length = n') := Lib.hid (by have := HO.out.1; rw [List.length_map] at this; omega)
            have hadd := add_any [h0, h1, h2, h3, h4, h5, h6, h7] (L ++ lenL N 8) [] 0 (.slice a2 n' c2) (.slice none 0 0) E w0.heap.size wr HS.out (by rw [hLl.out]; exact HO.out) (RdAt.nil _ _) HBL.out (by simp [Value.ownBlock]) hE hbr.size (by rw [hLl.out]; simp; omega) (by simp)
            clear g8 hne1
            go_wp2_with fail
            refine hadd.mono ?_
            rintro e wa ⟨rv', kk, rfl, hkk, hSA, _, hba⟩
            obtain ⟨X, hX⟩ : ∃ X, blocksL [h0, h1, h2, h3, h4, h5, h6, h7] ((L ++ lenL N 8) ++ []) kk = X := ⟨_, rfl⟩
            rw [hX] at hSA
            have HXX : Hid (X = blocksL [h0, h1, h2, h3, h4, h5, h6, h7] (padL rb m cnt) ((padL rb m cnt).length / 64)) := Lib.hid (by rw [← hX, hkk, List.append_nil, ← HL.out, ← HN.out]; rfl)
            have hbA := hbr.trans hba
            have hR1' := Lib.hid ((hbA.block w.heap.size (by rw [hsz0.out]; omega)).trans HR0.out)
            have hSA2 := hSA.later (alloc_below wa (.cells (Array.replicate 32 (.int .u8 0)) 106))
            have hbA2 := hbA.alloc hbA.size (.cells (Array.replicate 32 (.int .u8 0)) 106)
            have hO2 : (wa.alloc (.cells (Array.replicate 32 (.int .u8 0)) 106)).heap[wa.heap.size]? = some (.cells (Array.replicate 32 (.int .u8 0)) 106 (0, 0)) := heap_alloc_new _ _
            have hEO : E < wa.heap.size := hSA.lt
            have hbw : w0.heap.size ≤ wa.heap.size := hbA.size
            clear hX hkk hSA hba hadd HBL hLl HO HS hbr hbA
            generalize (0 : Int) + (([] : List Int).length : Int) = cz at *
            have HSA := Lib.hid hSA2
            have HO3 : Hid (ORow (wa.alloc (.cells (Array.replicate 32 (.int .u8 0)) 106)) wa.heap.size (outL X 0)) := Lib.hid (orow_new hO2 X)
            have HbA := Lib.hid hbA2
            have HR2 : Hid ((wa.alloc (.cells (Array.replicate 32 (.int .u8 0)) 106)).heap[w.heap.size]? = some (.cells (Array.replicate 32 (.int .u8 0)) 106 (0, 0))) := Lib.hid ((hbA2.block w.heap.size (by rw [hsz0.out]; omega)).trans HR0.out)
            clear hSA2 hO2 hbA2 hR1'
            go_wp2
            obtain ⟨O, hO⟩ : ∃ O, O = wa.heap.size := ⟨_, rfl⟩
            have HOO := Lib.hid hO
            rw [← hO] at HO3 hEO hbw ⊢
            clear hO
            go_loopw [67] (fun i wr => ∃ (k : Nat), k ≤ 32 ∧ i = .int .i64 k ∧ Hid (SumAt wr E X rv' cz) ∧ Hid (ORow wr O (outL X k)) ∧ Hid (wr.heap[w.heap.size]? = some (.cells (Array.replicate 32 (.int .u8 0)) 106 (0, 0))) ∧ Hid (Below w0.heap.size w0 wr)) (fun i _ => 32 - (intOf i).toNat)
            case atStart => exact ⟨0, Nat.zero_le _, rfl, HSA, HO3, HR2, HbA⟩
            case round =>
              clear HSA HO3 HR2 HbA
              obtain ⟨k, hk, rfl, HS, HO, HR, HB⟩ := hrel
              by_cases hkl : k < 32
              · obtain ⟨q, hq⟩ : ∃ q, k / 4 = q := ⟨_, rfl⟩
                have hq1 : (k : Int) / 4 = (q : Int) := by omega
                have hq8 : q < 8 := by omega
                have hI1 : (q : Int) < 8 := by omega
                have hI2 : (k : Int) < 32 := by omega
                have g1 := HS.out.word q hq8
                obtain ⟨y, hy⟩ : ∃ y, X.getD q 0 = y := ⟨_, rfl⟩
                rw [hy] at g1
                obtain ⟨m8, hm8⟩ : ∃ m : Int, 8 * ((k : Int) % 4) = m := ⟨_, rfl⟩
                have q1 : IntKind.i64.wrap (8 * ((k : Int) % 4)) = m8 := by rw [IntKind.wrap_i64]; omega
                obtain ⟨s, hs⟩ : ∃ s : Int, 24 - m8 = s := ⟨_, rfl⟩
                have q2 : IntKind.i64.wrap (24 - m8) = s := by rw [IntKind.wrap_i64]; omega
                have hs0 : 0 ≤ s := by omega
                have hs1 : s ≤ 32 := by omega
                obtain ⟨x, hx⟩ : ∃ x, IntKind.u8.wrap (y / 2 ^ s.toNat) = x := ⟨_, rfl⟩
                have HX2 : Hid (x = outAt X k) := Lib.hid (by rw [← hx, IntKind.wrap_u8']; unfold outAt; rw [hq, hy]; congr 3; omega)
                have g2 := HO.out.old k (by simp [outL]) hkl
                have f2 := HO.out.free k
                have HST := Lib.hid (HO.out.store (k := k) (by simp [outL]) hkl x)
                have hS2 := Lib.hid (HS.out.of_heap (w' := wr.setCell ⟨O, k, none⟩ (V8 x)) (heap_setCell_other wr ⟨O, k, none⟩ E _ (by show E ≠ O; omega)))
                have hR2 := Lib.hid ((heap_setCell_other wr ⟨O, k, none⟩ w.heap.size (V8 x) (by have := hsz0.out; show w.heap.size ≠ O; omega)).trans HR.out)
                have hB2 := Lib.hid (HB.out.trans (below_setCell (B := w0.heap.size) wr O k (V8 x) (by omega)))
                clear hq hm8 hs hy HS HO HR HB
                go_wp2
                go_roundw
                case rel =>
                  refine ⟨k + 1, by omega, by go_num, hS2, Lib.hid ?_, hR2, hB2⟩
                  rw [outL_succ, ← HX2.out]
                  exact HST.out
                case measure => (simp [intOf]; try omega)
              · obtain rfl : k = 32 := by omega
                rw [show ((32 : Nat) : Int) = 32 from rfl]
                have hO5 : wr.heap[O]? = some (.cells ((outL X 32).map V8).toArray 106 (0, 0)) := by have := HO.out.2; rw [outL_len] at this; simpa using this
                go_upto_region 19 with fail
                have hOl : ((outL X 32).map V8).toArray.size = 32 := by simp [outL]
                have hI9 : (Try.prog.info? 106).map (·.size) = some ((outL X 32).map V8).toArray.size := by rw [hOl]; kernel_rfl
                apply wp_region_lit
                refine wpList_load_row rfl 106 (.tmp 6) rfl O rfl 106 ((outL X 32).map V8).toArray (0, 0) _ hO5 Try.underlying106 rfl hI9 ?_
                refine wpList_store_row rfl 106 (.tmp 2) (.tmp 86) rfl w.heap.size ((outL X 32).map V8).toArray rfl rfl 106 _ HR.out hI9 (by rw [hOl]; rfl) (all_oneCell_toArray (v8_cells _)) ?_
                have hg2 := setRow_heap wr w.heap.size _ ((outL X 32).map V8).toArray _ _ HR.out
                have hb2 : Below w.heap.size w (wr.setRow w.heap.size ((outL X 32).map V8).toArray) := below_setRow (hb0.trans (HB.out.mono hb0.size)) (Nat.le_refl _) _
                generalize wr.setRow w.heap.size ((outL X 32).map V8).toArray = w1 at *
                have hfin : outL X 32 = sumOut [h0, h1, h2, h3, h4, h5, h6, h7] (padL rb m cnt) := by unfold sumOut; rw [← HXX.out]
                have hm56 : (rb.length + 1 + m) % 64 = 56 := HM56.out
                simp only [Act.put, List.setIfInBounds_toArray, List.set_cons_zero, List.set_cons_succ]
                show Exit.then _ _ Exit.normal _ _
                simp only [Exit.then]
                refine (by assumption : ∀ (a : Act) (w : World), Code.wp _ Code.ret _ a w → _) _ _ ?_
                go_wp2
                refine bodyPost_ret (results_cell_row rfl _ _ w.heap.size 106 ((outL X 32).map V8).toArray (0, 0) (.array 32 5) rfl hg2 Try.underlying106 rfl hI9) rfl ?_
                refine ⟨?_, hb2⟩
                rw [hfin, padN_eq HM64.out hm56 hl]
end Go.Proofs.Ytipnhpfpppblhaa
