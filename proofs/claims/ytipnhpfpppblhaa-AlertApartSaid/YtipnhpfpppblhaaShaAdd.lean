/- digest.Sum.Add: a contract. -/
import Derived.Test.YtipnhpfpppblhaaShaRound
import Derived.Test.YtipnhpfpppblhaaAppRd
namespace Go.Proofs.Ytipnhpfpppblhaa
open Go.RowKit

abbrev V8 (x : Int) : Value := .int .u8 x
/-- bytes are bytes -/
def ByteL (bs : List Int) : Prop := ∀ x ∈ bs, 0 ≤ x ∧ x < 256
theorem v8_cells (z : List Int) : ∀ y ∈ z.map V8, y.oneCell' = true := by
  intro y hy
  obtain ⟨x, _, rfl⟩ := List.mem_map.1 hy
  rfl
/-- v reads as the bytes l -/
def ByAt (w : World) (v : Value) (l : List Int) : Prop := RdAt w v l.length 1 (l.map V8)
theorem ByAt.later {w w' : World} {v : Value} {l : List Int} (h : ByAt w v l) (hb : Below w.heap.size w w') : ByAt w' v l := RdAt.later h hb
/-- the words behind k blocks -/
def blocksL (V bs : List Int) : Nat → List Int
  | 0 => V
  | k + 1 => blockL ((bs.drop (64 * k)).take 64) (blocksL V bs k)
theorem blocksL_len {V bs : List Int} (hV : V.length = 8) (k : Nat) : (blocksL V bs k).length = 8 := by
  cases k with
  | zero => exact hV
  | succ k => simp [blocksL, blockL, addL]
theorem info_u8 : (Try.prog.info? 5).map (fun i => (i.zero, i.size, i.bytes)) = some (some (.int .u8 0), 1, 1) := by kernel_rfl
/-- a slice of an own row that is cut at its head -/
theorem by_block {w : World} {v : Value} {l : List Int} (h : ByAt w v l) (h0 : 64 ≤ l.length) (hB : ByteL l) : ∃ b o c, v = .slice (some ⟨b, o, none⟩) l.length c ∧ l.length ≤ c ∧ b < w.heap.size ∧ Bytes8 w ⟨b, o, none⟩ (l.take 64) ∧
    ∀ j x, l[j]? = some x → w.cell? ⟨b, o + j, none⟩ = some (V8 x) := by
  obtain ⟨b, o, c, hv, hc, hlt, hcell⟩ := RdAt.some h (by omega)
  have hx : ∀ j x, l[j]? = some x → w.cell? ⟨b, o + j, none⟩ = some (V8 x) := fun j x hx => hcell j _ (by rw [List.getElem?_map, hx]; rfl)
  refine ⟨b, o, c, hv, hc, hlt, ⟨b, o, rfl, hlt, fun j hj => ?_⟩, hx⟩
  have hj' : j < l.length := by rw [List.length_take] at hj; omega
  rw [List.getElem_take]
  exact ⟨hx j _ (List.getElem?_eq_getElem hj'), hB _ (List.getElem_mem hj')⟩
theorem SumAt.setCount {w : World} {p : Nat} {V : List Int} {rv : Value} {cnt : Int} (h : SumAt w p V rv cnt) (c : Int) : SumAt (w.setCell ⟨p, 9, none⟩ (.int .i64 c)) p V rv c := by
  refine ⟨h.1, ?_⟩
  rw [heap_setCell_same w p 9 _ _ _ h.2]
  have hl := h.1
  match V, hl with
  | [x0, x1, x2, x3, x4, x5, x6, x7], _ => rfl
theorem SumAt.setRest {w : World} {p : Nat} {V : List Int} {rv : Value} {cnt : Int} (h : SumAt w p V rv cnt) (r : Value) : SumAt (w.setCell ⟨p, 8, none⟩ r) p V r cnt := by
  refine ⟨h.1, ?_⟩
  rw [heap_setCell_same w p 8 _ _ _ h.2]
  have hl := h.1
  match V, hl with
  | [x0, x1, x2, x3, x4, x5, x6, x7], _ => rfl
/-- how many bytes are left -/
def restLen (w : World) (p : Nat) : Nat := match w.cell? ⟨p, 8, none⟩ with | some (.slice _ n _) => n | _ => 0
theorem SumAt.restLen {w : World} {p : Nat} {V : List Int} {a : Option Addr} {n c : Nat} {cnt : Int} (h : SumAt w p V (.slice a n c) cnt) : Go.Proofs.Ytipnhpfpppblhaa.restLen w p = n := by
  unfold Go.Proofs.Ytipnhpfpppblhaa.restLen; rw [h.rest]
theorem row_apart {w : World} {base p : Nat} {e t : TypeId} {size n : Nat} {v : Value} {xs : List Value} {cs : Array Value} {fr : Nat × Nat} (h : w.ownsRow base e size v n xs) (hp : w.heap[p]? = some (.cells cs t fr)) (hne : e ≠ t) : v.ownBlock ≠ some p := by
  rcases h.2 with ⟨rfl, _⟩ | ⟨g, cap, cur, rfl, _, hg, _⟩
  · simp [Value.ownBlock]
  · intro hk
    have : g = p := by simpa [Value.ownBlock] using hk
    subst this
    rw [hg] at hp
    simp only [Option.some.injEq, Obj.cells.injEq] at hp
    exact hne hp.2.1
/-- what reads in another block, behind a change of p's -/
theorem rd_beside {w w' : World} {v : Value} {n k : Nat} {xs : List Value} {p : Nat} (h : RdAt w v n k xs) (hg : w.grownBy w' (some p)) (hne : v.ownBlock ≠ some p) : RdAt w' v n k xs := by
  refine ⟨h.1, ?_⟩
  rcases h.2 with h | ⟨a, c, rfl, hc, hr⟩
  · exact .inl h
  · refine .inr ⟨a, c, rfl, hc, fun hn => ?_⟩
    obtain ⟨b, o, rfl, hlt, hcell⟩ := hr hn
    refine ⟨b, o, rfl, Nat.lt_of_lt_of_le hlt hg.size, fun j x hx => ?_⟩
    rw [World.cell?_of_block (a := ⟨b, o + j, none⟩) (hg.block b hlt (fun e => hne (by rw [← e]; rfl)))]
    exact hcell j x hx
theorem below_row {w w' : World} {base p : Nat} (hg : w.grownBy w' (some p)) (hp : base ≤ p) (hs : base ≤ w.heap.size) : Below base w w' := (Below.refl base w).grown hg hs (fun k hk => by cases hk; exact hp)
set_option maxHeartbeats 3200000 in
set_option maxRecDepth 100000 in
theorem add_any (V rb bs : List Int) (cnt : Int) (rv v : Value) (p base : Nat) (w : World) (hS : SumAt w p V rv cnt) (hown : w.ownsRow base 5 1 rv rb.length (rb.map V8)) (hb : ByAt w v bs) (hB : ByteL (rb ++ bs))
    (hvp : v.ownBlock ≠ some p) (hbp : base ≤ p) (hbw : base ≤ w.heap.size) (hl : rb.length + bs.length ≤ 140737488355328) (hc : 0 ≤ cnt ∧ cnt + bs.length ≤ 4611686018427387904) :
    Calls Try.prog 83 #[.pointer (some ⟨p, 0, none⟩), v] w fun e w' => ∃ rv' k, e = .returned (.int .i64 (cnt + bs.length)) ∧ k = (rb ++ bs).length / 64 ∧ SumAt w' p (blocksL V (rb ++ bs) k) rv' (cnt + bs.length) ∧ ByAt w' rv' ((rb ++ bs).drop (64 * k)) ∧ Below base w w' := by
  obtain ⟨a, c, rfl, hcap, _⟩ := RdAt.shape hb
  obtain ⟨i0, hi, hz0, hz1, hz2⟩ := info_parts info_u8
  have hne1 : rv.ownBlock ≠ some p := row_apart hown hS.2 (by decide)
  have g9 := hS.count
  have f9 := hS.free 9
  have hS1 := hS.setCount (cnt + bs.length)
  have hg1 := grown_setCell w p 9 (.int .i64 (cnt + bs.length))
  have hown1 : (w.setCell ⟨p, 9, none⟩ (.int .i64 (cnt + bs.length))).ownsRow base 5 1 rv rb.length (rb.map V8) := hown.kept hg1 (.inr hne1)
  have hb1 : ByAt (w.setCell ⟨p, 9, none⟩ (.int .i64 (cnt + bs.length))) (.slice a bs.length c) bs := rd_beside hb hg1 hvp
  have hbl1 : Below base w (w.setCell ⟨p, 9, none⟩ (.int .i64 (cnt + bs.length))) := below_row hg1 hbp hbw
  have hww : (w.setCell ⟨p, 9, none⟩ (.int .i64 (cnt + bs.length))).heap.size = w.heap.size := World.size_setCell _ _ _
  have hcn : cnt + (bs.length : Int) ≤ 4611686018427387904 := hc.2
  have HB := Lib.hid hB
  clear hS hown hb hg1 hB
  go_enter Try.func83, Try.ntmps83
  go_upto_region 4 with fail
  clear g9 f9
  generalize w.setCell ⟨p, 9, none⟩ (.int .i64 (cnt + bs.length)) = w1 at *
  generalize hC : cnt + (bs.length : Int) = C at *
  have HC := Lib.hid hC
  clear hC
  have g8 := hS1.rest
  go_wp2_with (at_builtin; (refine wpList_append_rd rfl (.tmp 20) (.tmp 21) 103 rfl base 5 i0 (.int .u8 0) 1 1 Try.underlying103 hi hz0 hz1 hz2 rfl (by decide) _ _ _ rfl hown1 _ bs.length (bs.map V8) rfl hb1 (v8_cells bs) (by unfold maxLen; omega) (by omega) (by omega) ?_); intro v2 w2 hown2 hgrow2; obtain ⟨a2, c2, rfl, hc2, _⟩ := RdAt.shape (RdAt.own hown2); have hS2 := hS1.of_heap (hgrow2.block p hS1.lt (fun e => hne1 e.symm)); have g8 := hS2.rest; have f8 := hS2.free 8)
  have hne2 := row_apart hown2 hS2.2 (by decide)
  have hbl2 : Below base w w2 := hbl1.trans ((Below.refl base w1).grown hgrow2 (by omega) (fun k hk => (hown1.lt k hk).1))
  have hbs2 : base ≤ w2.heap.size := by have := hgrow2.size; omega
  have hS3 := hS2.setRest (.slice a2 (rb.length + bs.length) c2)
  have hg3 := grown_setCell w2 p 8 (.slice a2 (rb.length + bs.length) c2)
  have hrd3 := rd_beside (RdAt.own hown2) hg3 hne2
  have hbl3 : Below base w (w2.setCell ⟨p, 8, none⟩ (.slice a2 (rb.length + bs.length) c2)) := hbl2.trans (below_row hg3 hbp hbs2)
  have hbs3 : base ≤ (w2.setCell ⟨p, 8, none⟩ (.slice a2 (rb.length + bs.length) c2)).heap.size := by rw [World.size_setCell]; exact hbs2
  clear hS1 hS2 hown1 hown2 hgrow2 hbl1 hbl2 hbs2 hg3 g8 f8 hb1 hww
  generalize w2.setCell ⟨p, 8, none⟩ (.slice a2 (rb.length + bs.length) c2) = w3 at *
  obtain ⟨BS, hBS⟩ : ∃ l, rb ++ bs = l := ⟨_, rfl⟩
  have hBl : rb.length + bs.length = BS.length := by rw [← hBS, List.length_append]
  have hrd : ByAt w3 (.slice a2 BS.length c2) (BS.drop (64 * 0)) := by
    have e : rb.map V8 ++ bs.map V8 = BS.map V8 := by rw [← hBS, List.map_append]
    rw [hBl, e] at hrd3
    exact hrd3
  rw [hBl] at hS3 hne2
  rw [hBS] at HB
  have hSl : SumAt w3 p (blocksL V BS 0) (.slice a2 BS.length c2) C := hS3
  have hblen : Hid ((rb ++ bs) = BS) := Lib.hid hBS
  have hBl2 : BS.length ≤ 140737488355328 := by omega
  clear hrd3 hS3 hBS hBl
  have hrd0 : Hid (ByAt w3 (.slice a2 BS.length c2) (BS.drop (64 * 0))) := Lib.hid hrd
  have hSl0 := Lib.hid hSl
  clear hrd hSl
  go_wp2
  go_loopw [25] (fun _ wr => ∃ (k n c' : Nat) (a' : Option Addr), n + 64 * k = BS.length ∧ Hid (SumAt wr p (blocksL V BS k) (.slice a' n c') C) ∧ Hid (ByAt wr (.slice a' n c') (BS.drop (64 * k))) ∧ (Value.slice a' n c').ownBlock ≠ some p ∧ Below base w wr ∧ base ≤ wr.heap.size) (fun _ wr => restLen wr p)
  case atStart => exact ⟨0, BS.length, c2, a2, by omega, hSl0, hrd0, hne2, hbl3, hbs3⟩
  case round =>
    obtain ⟨k, n, c', a', hn, HS, HR, hne, hbl, hbs⟩ := hrel
    have hdl : (BS.drop (64 * k)).length = n := by rw [List.length_drop]; omega
    have hrl := HS.out.restLen
    have g8 := HS.out.rest
    by_cases h64 : 64 ≤ n
    · have hBk : ByteL (BS.drop (64 * k)) := fun x hx => HB.out x (List.mem_of_mem_drop hx)
      obtain ⟨b, o, c'', hv, hcc, hlt, h8, hcell⟩ := by_block HR.out (by omega) hBk
      rw [hdl] at hv hcc
      cases hv
      have hbp2 : b ≠ p := fun e => hne (by rw [e]; rfl)
      have hround := round_any ((BS.drop (64 * k)).take 64) (blocksL V BS k) p ⟨b, o, none⟩ c' wr (by rw [List.length_take]; omega) h8 (.slice (some ⟨b, o, none⟩) n c') C HS.out
      have hI1 : (64 : Int) ≤ (n : Int) := by omega
      have hI2 : (64 : Int) ≤ (c' : Int) := by omega
      have hI3 : (n : Int) ≤ (c' : Int) := by omega
      have HCELL := Lib.hid hcell
      clear hcell h8 hBk
      go_wp2_with fail
      refine hround.mono ?_
      rintro e w4 ⟨rfl, hS4, hg4⟩
      have hbl4 := hbl.trans (below_row hg4 hbp hbs)
      have hbs4 : base ≤ w4.heap.size := Nat.le_trans hbs hg4.size
      have g8' := hS4.rest
      have f8 := hS4.free 8
      have hb4 : b < w4.heap.size := Nat.lt_of_lt_of_le hlt hg4.size
      have hc4 : Hid (∀ j x, (BS.drop (64 * k))[j]? = some x → w4.cell? ⟨b, o + j, none⟩ = some (V8 x)) := Lib.hid (fun j x hx => by
        rw [World.cell?_of_block (a := ⟨b, o + j, none⟩) (hg4.block b hlt (fun e => hbp2 (by cases e; rfl)))]
        exact HCELL.out j x hx)
      have hst : ∀ (oa : Option Addr) (c9 : Nat), n - 64 ≤ c9 → (∃ a9, oa = some a9 ∧ (0 < n - 64 → a9 = ⟨b, o + 64, none⟩) ∧ a9.block = b) → (∃ (k n' c' : Nat) (a' : Option Addr), n' + 64 * k = BS.length ∧ Hid (SumAt (w4.setCell ⟨p, 8, none⟩ (.slice oa (n - 64) c9)) p (blocksL V BS k) (.slice a' n' c') C) ∧ Hid (ByAt (w4.setCell ⟨p, 8, none⟩ (.slice oa (n - 64) c9)) (.slice a' n' c') (BS.drop (64 * k))) ∧ (Value.slice a' n' c').ownBlock ≠ some p ∧ Below base w (w4.setCell ⟨p, 8, none⟩ (.slice oa (n - 64) c9)) ∧ base ≤ (w4.setCell ⟨p, 8, none⟩ (.slice oa (n - 64) c9)).heap.size) := by
        rintro oa c9 h9 ⟨a9, rfl, ha, hab⟩
        have hg9 := grown_setCell w4 p 8 (.slice (some a9) (n - 64) c9)
        refine ⟨k + 1, n - 64, c9, some a9, by omega, Lib.hid (hS4.setRest _), Lib.hid ?_, ?_, hbl4.trans (below_row hg9 hbp hbs4), by rw [World.size_setCell]; exact hbs4⟩
        · refine ⟨by simp, .inr ⟨a9, c9, by rw [List.length_drop]; congr 1; omega, by rw [List.length_drop]; omega, fun h0 => ?_⟩⟩
          rw [List.length_drop] at h0
          refine ⟨b, o + 64, ha (by omega), by rw [World.size_setCell]; exact hb4, fun j x hx => ?_⟩
          rw [World.cell?_of_block (a := ⟨b, o + 64 + j, none⟩) (hg9.block b hb4 (fun e => hbp2 (by cases e; rfl)))]
          rw [List.getElem?_map, Option.map_eq_some_iff] at hx
          obtain ⟨y, hy, rfl⟩ := hx
          have := hc4.out (64 + j) y (by rw [List.getElem?_drop] at hy ⊢; rw [← hy]; congr 1; omega)
          rw [Nat.add_assoc]; exact this
        · intro e
          have : a9.block = p := by simpa [Value.ownBlock] using e
          exact hbp2 (by rw [← hab, this])
      have HST := Lib.hid hst
      have hrl2 : ∀ (a9 : Option Addr) (c9 : Nat), Go.Proofs.Ytipnhpfpppblhaa.restLen (w4.setCell ⟨p, 8, none⟩ (.slice a9 (n - 64) c9)) p = n - 64 := fun a9 c9 => (hS4.setRest (.slice a9 (n - 64) c9)).restLen
      have HRL := Lib.hid hrl2
      clear hst hrl2 hS4 hg4 HS HR hround g8 hbl HCELL
      go_wp2
      go_roundw
      case rel => exact HST.out _ _ (by omega) (by split; exact ⟨_, rfl, fun h => by omega, rfl⟩; exact ⟨_, rfl, fun _ => rfl, rfl⟩)
      case measure => rw [HRL.out, hrl]; omega
    · have hI1 : (n : Int) < 64 := by omega
      have g9 := HS.out.count
      clear hrl
      go_wp2
      go_ret
      rw [HC.out, hblen.out]
      exact ⟨_, k, rfl, by omega, HS.out, HR.out, hbl⟩
end Go.Proofs.Ytipnhpfpppblhaa
