/- pattern's Least: a contract. -/
import Derived.Test.YtlepnnbgecneeaaPatA
import Derived.Test.YtlepnnbgecneeaaPatH
import Derived.Test.YtlepnnbgecneeaaPatO
namespace Go.Proofs.Ytlepnnbgecneeaa
open Go.RowKit

theorem BuilderAt_below {T e : TypeId} {B b : Nat} {p : Value} {bs : List Value} {w w' : World} (h : Lib.BuilderAt T e B b p bs w) (hb : Below w.heap.size w w') : Lib.BuilderAt T e B b p bs w' := by
  have hlt := h.lt
  obtain ⟨hB, v, h1, h2, h3⟩ := h
  exact ⟨hB, v, (hb.block b hlt).trans h1, ownsRow_below h2 hb, h3⟩
theorem IsBuilder_below {T e : TypeId} {B b : Nat} {bs : List Value} {w w' : World} (h : Lib.IsBuilder T e B b bs w) (hb : Below w.heap.size w w') : Lib.IsBuilder T e B b bs w' := by
  rcases h with h | h
  · exact .inl (BuilderAt_below h hb)
  · exact .inr (BuilderAt_below h hb)
theorem IsBuilder_set {T e : TypeId} {B b : Nat} {bs : List Value} {w : World} (h : Lib.IsBuilder T e B b bs w) {g j : Nat} (hg : g < B) (u : Value) : Lib.IsBuilder T e B b bs (w.setCell ⟨g, j, none⟩ u) := by
  have key : ∀ p, Lib.BuilderAt T e B b p bs w → Lib.BuilderAt T e B b p bs (w.setCell ⟨g, j, none⟩ u) := fun p h => by
    obtain ⟨hB, v, h1, h2, h3⟩ := h
    refine ⟨hB, v, (Below.heap_setCell w ⟨g, j, none⟩ u b (by show b ≠ g; omega)).trans h1, ownsRow_blk h2 (fun k hk => ?_), h3⟩
    exact Below.heap_setCell w ⟨g, j, none⟩ u k (by have := (h2.lt k hk).1; show k ≠ g; omega)
  rcases h with h | h
  · exact .inl (key _ h)
  · exact .inr (key _ h)
/-- a row of ints outlives what is written into a builder -/
theorem ownsRow_others {w w' : World} {base n b : Nat} {v : Value} {xs : List Value} (h : w.ownsRow base 3 1 v n xs) (hk : Lib.OthersKept 5 (some b) w w') (hb : v.ownBlock ≠ some b) : w'.ownsRow base 3 1 v n xs := by
  rcases h.2 with ⟨rfl, h0⟩ | ⟨g, cap, cur, rfl, hb1, hg, h2⟩
  · exact ⟨h.1, .inl ⟨rfl, h0⟩⟩
  · refine ⟨h.1, .inr ⟨g, cap, cur, rfl, hb1, hk g _ hg (fun e => hb (by rw [← e]; rfl)) (fun c fz e => ?_), h2⟩⟩
    injection e with _ e2
    exact absurd e2 (by decide)
def chr (l : List Nat) : List Value := l.map fun (n : Nat) => Value.int .u8 (n : Int)
/-- what Least carries in memory -/
structure LsAt (w : World) (sts : List St) (st en : Nat) (d : List Nat) (g cap bd bl bb : Nat) (wr : World) (vl : Value) (ws out : List Nat) (left : Nat) : Prop where
  li : LI sts st en d ws left out
  le : ws.length + left ≤ 300
  by1 : ∀ c ∈ ws, c < 256
  cl : wr.heap[bl]? = some (.cells #[.int .i64 left] 3 (0, 0))
  cd : wr.heap[bd]? = some (.cells #[.slice (some ⟨g, 0, none⟩) d.length cap] 58 (0, 0))
  rd : RowD wr w.heap.size g cap d
  bu : Lib.IsBuilder 62 5 bb bb (chr ws) wr
  ro : wr.ownsRow (bb + 1) 3 1 vl out.length (freeC out)
  ri : RisingN out
  be : Below w.heap.size w wr
  od : w.heap.size ≤ g ∧ g < bd ∧ bd < bl ∧ bl < bb ∧ bb < wr.heap.size
theorem LsAt.below {w : World} {sts : List St} {st en : Nat} {d : List Nat} {g cap bd bl bb : Nat} {wr wr' : World} {vl : Value} {ws out : List Nat} {left : Nat} (h : LsAt w sts st en d g cap bd bl bb wr vl ws out left) (hb : Below wr.heap.size wr wr') : LsAt w sts st en d g cap bd bl bb wr' vl ws out left := by
  obtain ⟨o1, o2, o3, o4, o5⟩ := h.od
  exact ⟨h.li, h.le, h.by1, (hb.block bl (by omega)).trans h.cl, (hb.block bd (by omega)).trans h.cd, ownsRow_below h.rd hb, IsBuilder_below h.bu hb, ownsRow_below h.ro hb, h.ri, h.be.trans (hb.mono h.be.size), o1, o2, o3, o4, Nat.lt_of_lt_of_le o5 hb.size⟩
/-- one byte more is written, and one less is left -/
theorem LsAt.next {w : World} {sts : List St} {st en : Nat} {d : List Nat} {g cap bd bl bb : Nat} {wr w2 : World} {vl vn : Value} {ws out nxt : List Nat} {left c : Nat} (h : LsAt w sts st en d g cap bd bl bb wr vl ws out (left + 1)) (hc : c < 256)
    (hn : wr.ownsRow (bb + 1) 3 1 vn nxt.length (freeC nxt)) (hri : RisingN nxt) (hli : LI sts st en d (ws ++ [c]) left nxt)
    (hbu : Lib.IsBuilder 62 5 bb bb (chr ws ++ [.int .u8 c]) w2) (hb2 : Below bb wr w2) (hk : Lib.OthersKept 5 (some bb) wr w2) :
    LsAt w sts st en d g cap bd bl bb (w2.setCell ⟨bl, 0, none⟩ (.int .i64 left)) vn (ws ++ [c]) nxt left := by
  obtain ⟨o1, o2, o3, o4, o5⟩ := h.od
  have hcl2 : w2.heap[bl]? = some (.cells #[.int .i64 ((left + 1 : Nat) : Int)] 3 (0, 0)) := (hb2.block bl (by omega)).trans h.cl
  have hoth : ∀ k, k ≠ bl → (w2.setCell ⟨bl, 0, none⟩ (.int .i64 left)).heap[k]? = w2.heap[k]? := fun k hk => Below.heap_setCell w2 ⟨bl, 0, none⟩ _ k hk
  have hgt : ∀ k, vn.ownBlock = some k → bb + 1 ≤ k := fun k e => (hn.lt k e).1
  refine ⟨hli, by have := h.le; rw [List.length_append]; simp; omega, ?_, ?_, ?_, ?_, ?_, ?_, hri, ?_, o1, o2, o3, o4, ?_⟩
  · intro q hq
    rcases List.mem_append.1 hq with h1 | h1
    · exact h.by1 q h1
    · rw [List.mem_singleton.1 h1]; exact hc
  · simp [World.setCell, Array.getElem?_modify, hcl2]
  · rw [hoth bd (by omega)]; exact (hb2.block bd (by omega)).trans h.cd
  · refine ownsRow_blk h.rd (fun k hk => ?_)
    simp only [Value.ownBlock, Option.some.injEq] at hk
    subst hk
    rw [hoth g (by omega)]; exact hb2.block g (by omega)
  · have e : chr (ws ++ [c]) = chr ws ++ [.int .u8 c] := by simp [chr]
    rw [e]
    exact IsBuilder_set hbu o4 _
  · refine ownsRow_blk (ownsRow_others hn hk (fun e => ?_)) (fun k hk => hoth k (by have := hgt k hk; omega))
    have := hgt bb e; omega
  · exact below_put (h.be.trans (hb2.mono (by omega))) (by omega)
  · rw [World.setCell]; simp only [Array.size_modify]; exact Nat.lt_of_lt_of_le o5 hb2.size
theorem chr_bytes {ws : List Nat} (h : ∀ c ∈ ws, c < 256) : chr ws = Lib.byteCells (ws.map UInt8.ofNat) ∧ bytesN ⟨(ws.map UInt8.ofNat).toArray⟩ = ws := by
  have key : ∀ c, c < 256 → (UInt8.ofNat c).toNat = c := fun c hc => by simp; omega
  constructor
  · unfold chr Lib.byteCells
    rw [List.map_map]
    exact List.map_congr_left (fun c hc => by simp only [Function.comp]; rw [key c (h c hc)])
  · unfold bytesN
    show (List.map (fun x => x.toNat) (ws.map UInt8.ofNat)) = ws
    rw [List.map_map]
    conv => rhs; rw [← List.map_id ws]
    exact List.map_congr_left (fun c hc => key c (h c hc))
set_option maxHeartbeats 6400000 in
set_option maxRecDepth 100000 in
theorem least_is (w : World) (a : Nat) (s : ByteArray) (sts : List St) (st en : Nat) (hp : PatAt w a s sts st en) (hw : SWf sts) (hN : tot sts ≤ 100000) (hs : st < sts.length) (he : en < sts.length) :
    Calls Try.prog 11 #[.pointer (some ⟨a, 0, none⟩)] w fun e w' => ∃ b t, e = .returned (.tuple #[.string t, .bool b]) ∧ Below w.heap.size w w' ∧ t.size ≤ 300 ∧
      ((b = true ∧ LeastP sts st en (bytesN t)) ∨ (b = false ∧ t = ⟨#[]⟩ ∧ ∀ cs, (∀ c ∈ cs, c < 256) → cs.length ≤ 300 → ¬ Rn sts st cs en)) := by
  have hNl : sts.length ≤ 100000 := Nat.le_trans (len_tot _) hN
  obtain ⟨sa, sn, sc, c1, _, c2, c3, halt, _⟩ := hp.cells
  have hnr := near_is w a s sts st en hp hw hN he
  have HP := Lib.hid hp
  have HW := Lib.hid hw
  clear hp hw
  go_enter Try.func11, Try.ntmps11
  go_wp2_with fail
  refine hnr.mono ?_
  rintro e w1 ⟨g, cap, d, rfl, hrd, hnear, hb1⟩
  have HN := Lib.hid hnear
  have hdl : d.length = sts.length := hnear.1.len
  have x0 := heap_alloc_new w1 (.cells #[.slice (some ⟨g, 0, none⟩) d.length cap] 58)
  have y0 : (w1.alloc (.cells #[.slice (some ⟨g, 0, none⟩) d.length cap] 58)).cell? ⟨w1.heap.size, 0, none⟩ = some (.slice (some ⟨g, 0, none⟩) d.length cap) := by rw [cell_of_row _ _ _ _ _ _ x0]; rfl
  have hrd1 : RowD (w1.alloc (.cells #[.slice (some ⟨g, 0, none⟩) d.length cap] 58)) w.heap.size g cap d := hrd.alloc _
  have hb1a := hb1.alloc hb1.size (.cells #[.slice (some ⟨g, 0, none⟩) d.length cap] 58)
  have d2 := keep_cell c2 hb1a halt
  have hgl := (hrd.lt g rfl).2
  have hge := (hrd.lt g rfl).1
  obtain ⟨lf, hlf⟩ : ∃ v, d.getD st 0 = v := ⟨_, rfl⟩
  have hdc := (hrd1.cell (j := st) (by omega)).1
  rw [hlf] at hdc
  have hst0 : (0 : Int) ≤ (st : Int) := by omega
  have hst1 : (st : Int) < (d.length : Int) := by omega
  have hsz1 := World.size_alloc w1 (.cells #[.slice (some ⟨g, 0, none⟩) d.length cap] 58)
  have HDL := Lib.hid hdl
  have HRD := Lib.hid hrd1
  have HB1 := Lib.hid hb1a
  have hA : a < (w1.alloc (.cells #[.slice (some ⟨g, 0, none⟩) d.length cap] 58)).heap.size := by have := hb1a.size; omega
  have hG : g < (w1.alloc (.cells #[.slice (some ⟨g, 0, none⟩) d.length cap] 58)).heap.size := by omega
  have hBD : w1.heap.size < (w1.alloc (.cells #[.slice (some ⟨g, 0, none⟩) d.length cap] 58)).heap.size := by omega
  clear hnr hnear hrd hb1 hdl hrd1 hb1a
  go_upto_region 4 with fail
  generalize w1.alloc (.cells #[.slice (some ⟨g, 0, none⟩) d.length cap] 58) = W at *
  generalize hbd : w1.heap.size = bd at *
  have hal := alloc_below W (.cells #[.int .i64 0] 3)
  have v0 := keep_cell y0 hal hBD
  have v1 := keep_cell d2 hal hA
  have v2 := keep_cell hdc hal hG
  have hx0 : ((W.alloc (.cells #[.int .i64 lf] 3)).drew).heap[bd]? = some (.cells #[.slice (some ⟨g, 0, none⟩) d.length cap] 58 (0, 0)) := (heap_alloc_old W _ hBD).trans x0
  have hx1 : ((W.alloc (.cells #[.int .i64 lf] 3)).drew).heap[bd + 1]? = some (.cells #[.int .i64 lf] 3 (0, 0)) := by rw [← hsz1]; exact heap_alloc_new W _
  have hx2 : RowD (W.alloc (.cells #[.int .i64 lf] 3)).drew w.heap.size g cap d := HRD.out.alloc (.cells #[.int .i64 lf] 3)
  have hx3 : Below w.heap.size w (W.alloc (.cells #[.int .i64 lf] 3)).drew := (HB1.out.alloc HB1.out.size (.cells #[.int .i64 lf] 3)).drew
  have hx4 : ((W.alloc (.cells #[.int .i64 lf] 3)).drew).heap.size = bd + 2 := by show (W.alloc _).heap.size = _; rw [World.size_alloc, hsz1]
  go_region
  go_upto_region 5 with fail
  generalize (W.alloc (.cells #[.int .i64 lf] 3)).drew = W2 at *
  have hcl : W2.cell? ⟨bd + 1, 0, none⟩ = some (.int .i64 lf) := by rw [cell_of_row _ _ _ _ _ _ hx1]; rfl
  have hlf3 : lf ≤ 301 := hlf ▸ (HN.out.1.ok st hs).1
  have hbdw : w.heap.size ≤ bd := by omega
  have hgw : g < bd := by omega
  have X0 := Lib.hid hx0
  have X1 := Lib.hid hx1
  have X2 := Lib.hid hx2
  have X3 := Lib.hid hx3
  clear hx0 hx1 hx2 hx3 v0 v1 v2 hal y0 d2 hdc x0 HRD HB1 hA hG hBD hsz1 hgl hbd
  by_cases hbig : 300 < lf
  · have hno : Hid (∀ cs, (∀ c ∈ cs, c < 256) → cs.length ≤ 300 → ¬ Rn sts st cs en) := Lib.hid (fun cs hb hl hr => by
      obtain ⟨k, h1, h2⟩ := Rn_split (ws := []) cs en hb (by simpa using hr)
      obtain ⟨j, hj, hr2⟩ := Rn_nil.1 h1
      rw [List.mem_singleton.1 hj] at hr2
      have h3 := HN.out.fr HW.out hr2 hs
      have h4 := HN.out.le HW.out h2.pn (FR_lt HW.out hr2 hs)
      omega)
    go_wp2
    go_ret2
    exact ⟨false, _, rfl, X3.out, by decide, .inr ⟨rfl, rfl, hno.out⟩⟩
  · have hl3 : lf ≤ 300 := by omega
    have d2 := keep_cell c2 X3.out halt
    have haW : a < W2.heap.size := Nat.lt_of_lt_of_le halt X3.out.size
    have d3 := keep_cell d2 (alloc_below W2 (.cells #[.pointer none, .slice none 0 0] 62)) haW
    have hfr := Lib.fresh_isBuilder 62 5 W2
    rw [hx4] at hfr
    have k0 : (W2.alloc (.cells #[.pointer none, .slice none 0 0] 62)).heap[bd]? = some (.cells #[.slice (some ⟨g, 0, none⟩) d.length cap] 58 (0, 0)) := (heap_alloc_old W2 _ (by omega)).trans X0.out
    have k1 : (W2.alloc (.cells #[.pointer none, .slice none 0 0] 62)).heap[bd + 1]? = some (.cells #[.int .i64 lf] 3 (0, 0)) := (heap_alloc_old W2 _ (by omega)).trans X1.out
    have k2 : RowD (W2.alloc (.cells #[.pointer none, .slice none 0 0] 62)) w.heap.size g cap d := X2.out.alloc _
    have k3 : Below w.heap.size w (W2.alloc (.cells #[.pointer none, .slice none 0 0] 62)) := X3.out.alloc X3.out.size _
    have k4 : (W2.alloc (.cells #[.pointer none, .slice none 0 0] 62)).heap.size = bd + 2 + 1 := by rw [World.size_alloc, hx4]
    have hgb : g < bd := hgw
    go_upto_region 8 with fail
    generalize W2.alloc (.cells #[.pointer none, .slice none 0 0] 62) = W3 at *
    have K0 := Lib.hid k0
    have K1 := Lib.hid k1
    have K2 := Lib.hid k2
    have K3 := Lib.hid k3
    have FR := Lib.hid hfr
    clear k0 k1 k2 k3 hfr hcl d2 X0 X1 X2 X3 haW hx4 W2
    have hba := alloc_below W3 (.cells #[.int .i64 st] 3)
    have x0 := heap_alloc_new W3 (.cells #[.int .i64 st] 3)
    have hv0 : RdAt (W3.alloc (.cells #[.int .i64 st] 3)) (.slice (some ⟨W3.heap.size, 0, none⟩) 1 1) [st].length 1 (freeC [st]) :=
      RdAt.mk (by simp [freeC]) (Nat.le_refl _) (by rw [World.size_alloc]; omega) (fun j x hj => by
        obtain ⟨h1, h2⟩ := List.getElem?_eq_some_iff.1 hj
        have h0 : j = 0 := by simp [freeC] at h1; omega
        subst h0
        rw [cell_of_row _ _ _ _ _ _ x0]
        simp [freeC] at h2
        simp [h2])
    have B4 : Below w.heap.size w (W3.alloc (.cells #[.int .i64 st] 3)) := K3.out.alloc K3.out.size _
    have hrc := reach_is (W3.alloc (.cells #[.int .i64 st] 3)) a s sts st en [st] _ (HP.out.below B4) HW.out hN hv0 (fun j hj => by rw [List.mem_singleton.1 hj]; exact hs) (by simp)
    rw [World.size_alloc, k4] at hrc
    clear x0 hv0
    go_wp2_with fail
    refine hrc.mono ?_
    rintro e w5 ⟨v5, out5, rfl, hro, hb5, hri, hmem⟩
    have hB5 : Below W3.heap.size W3 w5 := hba.trans (hb5.mono (by omega))
    have hLS : Hid (LsAt w sts st en d g cap bd (bd + 1) (bd + 2) w5 v5 [] out5 lf) := Lib.hid (by
      refine ⟨hlf ▸ LI.start HN.out HW.out hs (fun k => by rw [hmem k, Rn_nil]), by simpa using hl3, (fun c hc => by cases hc), (hB5.block _ (by omega)).trans K1.out, (hB5.block _ (by omega)).trans K0.out, ownsRow_below K2.out hB5, IsBuilder_below FR.out hB5, own_base hro (by omega), hri, K3.out.trans (hB5.mono K3.out.size), hge, hgb, by omega, by omega, ?_⟩
      have := hB5.size; omega)
    clear hrc hro hb5 hri hmem hB5 K0 K1 K2 K3 FR hba B4 d3 k4
    go_upto_region 9 with fail
    go_loopw [7] (fun vl wr => ∃ ws out left, Hid (LsAt w sts st en d g cap bd (bd + 1) (bd + 2) wr vl ws out left)) (fun _ wr => natAt wr (bd + 1) 0)
    case atStart => exact ⟨[], out5, lf, hLS⟩
    case round =>
      clear hLS
      obtain ⟨ws, out, left, LS⟩ := hrel
      obtain ⟨_, _, _, o4, o5⟩ := LS.out.od
      have hbe := LS.out.be.size
      have hcl : wr.cell? ⟨bd + 1, 0, none⟩ = some (.int .i64 left) := by rw [cell_of_row _ _ _ _ _ _ LS.out.cl]; rfl
      have hnat : natAt wr (bd + 1) 0 = left := by unfold natAt; rw [hcl]; simp
      cases left with
      | zero =>
        obtain ⟨e1, e2⟩ := chr_bytes LS.out.by1
        have hbu := LS.out.bu
        rw [e1] at hbu
        have hstr := Try.Builder_String_any (bd + 2) (bd + 2) (ws.map UInt8.ofNat) wr hbu (by omega)
        have hfin : Hid (LeastP sts st en (bytesN ⟨(ws.map UInt8.ofNat).toArray⟩)) := Lib.hid (by rw [e2]; exact LS.out.li.done HN.out HW.out hs)
        clear e1 e2 hbu hnat
        go_wp2_with fail
        refine hstr.mono ?_
        rintro e w6 ⟨rfl, hb6⟩
        clear hstr
        go_wp2
        go_ret2
        exact ⟨true, _, rfl, LS.out.be.trans (hb6.mono (by omega)), (by have h := LS.out.le; show (ws.map UInt8.ofNat).toArray.size ≤ 300; simp; omega), .inl ⟨rfl, hfin.out⟩⟩
      | succ left =>
        generalize u7 = V at *
        obtain ⟨L, hL⟩ : ∃ L, left + 1 = L := ⟨_, rfl⟩
        rw [hL] at hcl
        have hL0 : (0 : Int) < (L : Int) := by omega
        have hL1 : (L : Int) ≤ 300 := by have := LS.out.le; omega
        have HNA := Lib.hid hnat
        clear hnat
        go_upto_region 12 with fail
        have hdt : decide (0 < L) = true := decide_eq_true (by omega)
        rw [hdt]
        clear hcl hdt
        go_loopw [7, 34] (fun vl vc wr => ∃ c : Nat, c ≤ 256 ∧ vc = .int .i64 c ∧ vl = V ∧ Hid (LsAt w sts st en d g cap bd (bd + 1) (bd + 2) wr V ws out (left + 1)) ∧ Hid (∀ c', c' < c → ∀ k, Cl sts (goN sts c' out) k → d.getD k 0 ≠ left)) (fun _ vc _ => 256 - (intOf vc).toNat)
        case atStart => exact ⟨0, by omega, rfl, rfl, LS, Lib.hid (fun c' h => absurd h (Nat.not_lt_zero _))⟩
        case round =>
          clear LS o5 hbe
          obtain ⟨c, hc, rfl, rfl, LS, HC⟩ := hrel
          obtain ⟨_, _, _, _, o5⟩ := LS.out.od
          have hbe := LS.out.be.size
          by_cases hc6 : c < 256
          · have hlt : ∀ k ∈ out, k < sts.length := fun k hk => Rn_lt HW.out hs ((LS.out.li.mem k).1 hk)
            have hstep := step_is wr a s sts st en out u7 c hc6 (HP.out.below LS.out.be) HW.out hN (RdAt.own LS.out.ro) hlt (Nat.le_trans (rising_len LS.out.ri hlt) (by omega))
            have hc0 : (0 : Int) ≤ (c : Int) := by omega
            have hc1 : (c : Int) ≤ 255 := by omega
            clear hlt
            go_wp2_with fail
            refine hstep.mono ?_
            rintro e w3 ⟨v3, nxt, rfl, hro, hb3, hri, hmem⟩
            have LS3 := Lib.hid (LS.out.below hb3)
            have HM := Lib.hid hmem
            have hnlt : ∀ k ∈ nxt, k < sts.length := fun k hk => by
              obtain ⟨j, hj, hr⟩ := (hmem k).1 hk
              exact FR_lt HW.out hr (goN_lt HW.out hj)
            have hro2 : w3.ownsRow (bd + 2 + 1) 3 1 v3 nxt.length (freeC nxt) := own_base hro (by omega)
            have hnl : nxt.length ≤ 1000000 := Nat.le_trans (rising_len hri hnlt) (by omega)
            have hpred : ∀ W, Below w3.heap.size w3 W → ∀ k ∈ nxt, Calls Try.prog 27 #[.int .i64 k, .pointer (some ⟨bd, 0, none⟩), .pointer (some ⟨bd + 1, 0, none⟩)] W fun e w' => e = .returned (.bool (decide (d.getD k 0 = left + 1 - 1))) ∧ Below W.heap.size W w' := fun W hW k hk => by
              have LW := LS3.out.below hW
              have h1 : W.cell? ⟨bd, 0, none⟩ = some (.slice (some ⟨g, 0, none⟩) d.length cap) := by rw [cell_of_row _ _ _ _ _ _ LW.cd]; rfl
              have h2 : W.cell? ⟨bd + 1, 0, none⟩ = some (.int .i64 ((left + 1 : Nat) : Int)) := by rw [cell_of_row _ _ _ _ _ _ LW.cl]; rfl
              exact clos_is W bd (bd + 1) g cap w.heap.size d k (left + 1) (by rw [HDL.out]; exact hnlt k hk) (by omega) (by have := LW.le; omega) h1 h2 LW.rd
            have hhas := hasf_is w3 (bd + 2 + 1) nxt v3 hro2 hnl _ (.pointer (some ⟨bd, 0, none⟩)) (.pointer (some ⟨bd + 1, 0, none⟩)) hpred
            have HRO := Lib.hid hro2
            have HRI := Lib.hid hri
            clear hstep hro hb3 hri hmem hpred hro2 hnlt hnl
            go_wp2_with fail
            refine hhas.mono ?_
            rintro e w4 ⟨rfl, hb4⟩
            have LS4 := Lib.hid (LS3.out.below hb4)
            have HR4 := Lib.hid (ownsRow_below HRO.out hb4)
            clear hhas hb4 HRO LS3
            cases hany : nxt.any (fun k => decide (d.getD k 0 = left + 1 - 1)) with
            | true =>
              have hwb := wbyte_is (bd + 2) (bd + 2) (chr ws) c w4 LS4.out.bu (by have := LS4.out.le; simp [chr]; omega)
              obtain ⟨k, hk, hdk⟩ := List.any_eq_true.1 hany
              have hli : Hid (LI sts st en d (ws ++ [c]) left nxt) := Lib.hid (LS4.out.li.step HN.out HW.out hs hc6 HM.out ⟨k, hk, by simpa using hdk⟩ HC.out)
              clear hk hdk
              go_wp2_with fail
              refine hwb.mono ?_
              rintro e w6 ⟨rfl, hbu, hb6, hok⟩
              have hcl6 : w6.heap[bd + 1]? = some (.cells #[.int .i64 ((left + 1 : Nat) : Int)] 3 (0, 0)) := (hb6.block (bd + 1) (by omega)).trans LS4.out.cl
              rw [hL] at hcl6
              have e1 : w6.cell? ⟨bd + 1, 0, none⟩ = some (.int .i64 L) := by rw [cell_of_row _ _ _ _ _ _ hcl6]; rfl
              have e2 : w6.frozen? ⟨bd + 1, 0, none⟩ = false := by simp [World.frozen?, hcl6]
              have HNX := Lib.hid (LS4.out.next hc6 HR4.out HRI.out hli.out hbu hb6 hok)
              have hLe : ((left : Nat) : Int) = (L : Int) - 1 := by omega
              rw [hLe] at HNX
              have hcl7 : natAt (w6.setCell ⟨bd + 1, 0, none⟩ (.int .i64 ((L : Int) - 1))) (bd + 1) 0 = left := by
                have h := HNX.out.cl
                unfold natAt
                rw [cell_of_row _ _ _ _ _ _ h]
                simp
              clear hwb hcl6 hbu hb6 hok
              go_wp2
              go_roundw
              case rel => exact ⟨ws ++ [c], nxt, left, HNX⟩
              case measure => rw [hcl7]; have := HNA.out; omega
            | false =>
              have hC2 : Hid (∀ c', c' < c + 1 → ∀ k, Cl sts (goN sts c' out) k → d.getD k 0 ≠ left) := Lib.hid (fun c' h k hk e => by
                rcases Nat.lt_or_ge c' c with h1 | h1
                · exact HC.out c' h1 k hk e
                · obtain rfl : c' = c := by omega
                  have := List.any_eq_false.1 hany k ((HM.out k).2 hk)
                  simp at this
                  exact this e)
              go_wp2
              go_roundw
              case rel => exact ⟨c + 1, by omega, by go_num, rfl, LS4, hC2⟩
              case measure => (simp [intOf]; try omega)
          · obtain ⟨c', h1, k, h2, h3⟩ := LS.out.li.found HN.out HW.out hs (by have := LS.out.le; omega)
            exact absurd h3 (HC.out c' (by omega) k h2)
end Go.Proofs.Ytlepnnbgecneeaa
