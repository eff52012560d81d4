/- ClockPlays: the walk. -/
import Derived.Test.YtkhcckfnaahbeaaClkLaw
import Derived.Test.YtkhcckfnaahbeaaRefNext
import Derived.Deep.RegionHeldLaw
namespace Go.Proofs.Ytkhcckfnaahbeaa.lawPlays
open Go.RowKit Go.Proofs.Ytkhcckfnaahbeaa

/-- a step's box -/
def Sb (W : World) (H : Nat) (s : Stp) : Prop := W.heap[H]? = some (.cells #[.int .i64 s.by_, .int .i64 s.odd, s.v] 33 (0, 0))
theorem Sb.grown {W W' : World} {H : Nat} {s : Stp} {row : Option Nat} (h : Sb W H s) (hg : W.grownBy W' row) (hne : some H ≠ row) : Sb W' H s := (hg.block H (block_lt h) hne).trans h
/-- both clocks, the steps, the step at hand -/
def PA (w0 : World) (p q : Nat) (v : Value) (L : List Stp) (S T : Ck) (H : Nat) (s : Stp) (W : World) : Prop := Hd w0 p v L S W ∧ RClkAt W w0.heap.size q T ∧ Sb W H s
theorem PA.later {w0 : World} {p q : Nat} {v : Value} {L : List Stp} {S T : Ck} {H : Nat} {s : Stp} {W W' : World} (h : PA w0 p q v L S T H s W) (hb : Below W.heap.size W W') : PA w0 p q v L S T H s W' :=
  ⟨h.1.later hb, h.2.1.later hb, h.2.2.grown (below_grown hb none) (by simp)⟩
theorem PA.askc {w0 : World} {p q : Nat} {v : Value} {L : List Stp} {S S' T : Ck} {H : Nat} {s : Stp} {W W' : World} (h : PA w0 p q v L S T H s W) (hfar : v.ownBlock ≠ some p) (hC : Cs w0 p S' W') (hg : W.grownBy W' (some p)) : PA w0 p q v L S' T H s W' := by
  refine ⟨h.1.ask hfar hC hg, h.2.1.beside h.1.1.1 hg, h.2.2.grown hg (fun e => ?_)⟩
  obtain ⟨_, tv, hc, _⟩ := h.1.1.1
  have hs : W.heap[H]? = _ := h.2.2
  cases e
  rw [hc] at hs
  simp only [Option.some.injEq, Obj.cells.injEq] at hs
  exact absurd hs.2.1 (by decide)
theorem PA.askr {w0 : World} {p q : Nat} {v : Value} {L : List Stp} {S T T' : Ck} {H : Nat} {s : Stp} {W W' : World} (h : PA w0 p q v L S T H s W) (hfar : v.ownBlock ≠ some q) (hR : RClkAt W' w0.heap.size q T') (hg : W.grownBy W' (some q)) : PA w0 p q v L S T' H s W' := by
  refine ⟨⟨⟨h.1.1.1.besideR h.2.1 hg, h.1.1.2.trans (below_of_row hg h.2.1.1 h.1.1.2.size)⟩, h.1.2.beside hg hfar⟩, hR, h.2.2.grown hg (fun e => ?_)⟩
  obtain ⟨_, tv, hc, _⟩ := h.2.1
  have hs : W.heap[H]? = _ := h.2.2
  cases e
  rw [hc] at hs
  simp only [Option.some.injEq, Obj.cells.injEq] at hs
  exact absurd hs.2.1 (by decide)
theorem Sb.cells {W : World} {H : Nat} {s : Stp} (h : Sb W H s) : W.cell? ⟨H, 0, none⟩ = some (.int .i64 s.by_) ∧ W.cell? ⟨H, 1, none⟩ = some (.int .i64 s.odd) ∧ W.cell? ⟨H, 2, none⟩ = some s.v := by
  have h' : W.heap[H]? = _ := h
  refine ⟨?_, ?_, ?_⟩ <;> (rw [cell_of_row _ _ _ _ _ _ h']; rfl)

set_option maxHeartbeats 12800000 in
set_option maxRecDepth 100000 in
theorem walk (a b c : Int) (v0 : Value) (l : List Stp) (w : World) (hA : ArgStps w v0 l) :
    Calls Try.prog 7 #[.agg #[.int .i64 a, .int .i64 b, .int .i64 c], v0] w fun e w' => e = .returned (.bool true) ∧ Below w.heap.size w w' := by
  have HIDS := Lib.hid (early_ids hA)
  have HLE := Lib.hid (early_le l)
  go_enter Try.func7, Try.ntmps7
  go_wp2_with fail
  refine (lives_any _).mono ?_
  rintro e w1 ⟨rfl, hb1⟩
  obtain ⟨g0, g1, g2, hgl, hb⟩ := box3 _ _ _ _ _ _ hb1
  clear hb1
  have K3 : ∀ W, Below w1.heap.size w1 W → W.cell? ⟨w.heap.size, 0, none⟩ = some (.int .i64 a) ∧ W.cell? ⟨w.heap.size, 1, none⟩ = some (.int .i64 b) ∧ W.cell? ⟨w.heap.size, 2, none⟩ = some (.int .i64 c) := fun W h =>
    ⟨(h.cell (p := ⟨w.heap.size, 0, none⟩) hgl).trans g0, (h.cell (p := ⟨w.heap.size, 1, none⟩) hgl).trans g1, (h.cell (p := ⟨w.heap.size, 2, none⟩) hgl).trans g2⟩
  go_upto_region 3 with fail
  go_cut [5, 6] (fun s5 s6 wx => ∃ p q : Nat, s5 = .pointer (some ⟨p, 0, none⟩) ∧ s6 = .pointer (some ⟨q, 0, none⟩) ∧ Cs w p (newM a b c) wx ∧ RClkAt wx w.heap.size q (newM a b c))
  case first =>
    go_region_held_law (fun w' => w'.cell? ⟨w.heap.size, 0, none⟩ = some (.int .i64 a) ∧ w'.cell? ⟨w.heap.size, 1, none⟩ = some (.int .i64 b) ∧ w'.cell? ⟨w.heap.size, 2, none⟩ = some (.int .i64 c))
      (first | exact ⟨g0, g1, g2⟩ | exact K3 _ hBc | exact K3 _ hBr)
      (first
        | (go_at_call 10; refine (new_any a b c _).mono ?_; rintro e wc1 ⟨p, rfl, hC, hp, hbc⟩; have hBc : Below w1.heap.size w1 wc1 := by first | exact ((Below.refl _ _).drew).trans hbc | exact hBr.trans (hbc.mono hBr.size))
        | (go_at_call 11; refine (rnew_any a b c _).mono ?_; rintro e wr1 ⟨q, rfl, hR, hbr⟩; have hBr : Below w1.heap.size w1 wr1 := by first | exact ((Below.refl _ _).drew).trans hbr | exact hBc.trans (hbr.mono hBc.size)))
    all_goals (go_wp2_with fail; go_meet; first | exact ⟨p, q, rfl, rfl, ⟨(hC.low hb.size).later hbr, hb.trans (hBr.mono hb.size)⟩, hR.low (Nat.le_trans hb.size hBc.size)⟩ | exact ⟨p, q, rfl, rfl, ⟨hC.low (Nat.le_trans hb.size hBr.size), hb.trans (hBc.mono hb.size)⟩, (hR.low hb.size).later hbc⟩)
  case rest =>
    obtain ⟨p, q, rfl, rfl, hCs, hR⟩ := hcut
    clear K3 g0 g1 g2 hgl hb
    have hS0 := newM_ok a b c
    have hp := hCs.lt
    have hq : q < wc.heap.size := by obtain ⟨_, _, hc, _⟩ := hR; exact block_lt hc
    go_wp2_with fail
    refine (early_any wc (hA.later hCs.2)).mono ?_
    rintro e w3 ⟨v, rfl, hst, hfr, hb3⟩
    have hfar : v.ownBlock ≠ some p := fun e => by have := hfr p e; omega
    have hfarq : v.ownBlock ≠ some q := fun e => by have := hfr q e; omega
    have hH : Hd w p v (earlyL l) (newM a b c) w3 := ⟨hCs.later hb3, hst⟩
    have hR3 := hR.later hb3
    obtain ⟨av, cv, rfl, hcv, _⟩ := hst
    clear hA hCs hR hfr hb3 hp hq
    generalize earlyL l = L at *
    generalize newM a b c = S0 at *
    go_wp2
    go_loopw [7, 8] (fun vn vi wr => ∃ (k : Nat) (N : Int) (S : Ck), k ≤ L.length ∧ vi = .int .i64 k ∧ vn = .int .i64 N ∧ 0 ≤ N ∧ N ≤ 1099511627776 + k * 60 ∧ S.Ok ∧ Hd w p (.slice av L.length cv) L S wr ∧ RClkAt wr w.heap.size q S) (fun _ vi _ => L.length - (intOf vi).toNat)
    case atStart => exact ⟨0, 0, S0, Nat.zero_le _, rfl, rfl, Int.le_refl _, by omega, hS0, hH, hR3⟩
    case round =>
      obtain ⟨k, N, S, hk, rfl, rfl, hn0, hn1, hS, hHr, hRr⟩ := hrel
      have hL80 := HLE.out
      by_cases hkl : k < L.length
      · obtain ⟨s, hse⟩ : ∃ s, L[k] = s := ⟨_, rfl⟩
        obtain ⟨hids, hid8⟩ := HIDS.out s (by rw [← hse]; exact List.getElem_mem hkl)
        obtain ⟨_, _, hv, _, hcx⟩ := hHr.2
        cases hv
        obtain ⟨bv, ov, rfl, hbv, hcells⟩ := hcx (by omega)
        obtain ⟨d0, d1, d2⟩ := hcells k hkl
        rw [hse] at d0 d1 d2
        obtain ⟨M, hM, hM60⟩ := uintMod s.by_ 60 (by decide) (by decide)
        obtain ⟨ai, cs, hsv, hcs, _⟩ := RdAt.shape hids
        have hst := hHr.2
        clear hcells hse hcx
        obtain ⟨sb, so, sv, sids⟩ := s
        simp only at *
        subst hsv
        go_upto_region 11 with fail
        have hPA : PA w p q (.slice (some ⟨bv, ov, none⟩) L.length cv) L S S wr.heap.size ⟨sb, so, .slice ai sids.length cs, sids⟩ (wr.alloc (.cells #[.int .i64 sb, .int .i64 so, .slice ai sids.length cs] 33)) :=
          ⟨hHr.later (alloc_below _ _), hRr.later (alloc_below _ _), heap_alloc_new _ _⟩
        clear hHr hRr hst d0 d1 d2
        generalize (wr.alloc (.cells #[.int .i64 sb, .int .i64 so, .slice ai sids.length cs] 33)) = wa at *
        generalize wr.heap.size = H at *
        obtain ⟨b0, b1, b2⟩ := hPA.2.2.cells
        have hHlt : H < wa.heap.size := block_lt hPA.2.2
        have KB : ∀ W, Below wa.heap.size wa W → W.cell? ⟨H, 1, none⟩ = some (.int .i64 so) ∧ W.cell? ⟨H, 2, none⟩ = some (.slice ai sids.length cs) := fun W h =>
          ⟨(h.cell (p := ⟨H, 1, none⟩) hHlt).trans b1, (h.cell (p := ⟨H, 2, none⟩) hHlt).trans b2⟩
        obtain ⟨D, hD⟩ : ∃ D, dueM S so sids = D := ⟨_, rfl⟩
        have KD : ∀ W, Below wa.heap.size wa W → Calls Try.prog 17 #[.pointer (some ⟨p, 0, none⟩), .int .i64 so, .slice ai sids.length cs] W fun e w' => e = .returned (.bool D) ∧ Below W.heap.size W w' := fun W h => by
          rw [← hD]; exact due_any S so sids W w.heap.size p _ (hPA.later h).1.1.1 (hids.later (hPA.later h).1.1.2) (by omega) hS
        have KE : ∀ W, Below wa.heap.size wa W → Calls Try.prog 21 #[.pointer (some ⟨q, 0, none⟩), .int .i64 so, .slice ai sids.length cs] W fun e w' => e = .returned (.bool D) ∧ Below W.heap.size W w' := fun W h => by
          rw [← hD]; exact rdue_any S so sids W w.heap.size q _ (hPA.later h).2.1 (hids.later (hPA.later h).1.1.2) (by omega) hS
        clear hD
        go_cut [65] (fun s wx => s = .bool false ∧ PA w p q (.slice (some ⟨bv, ov, none⟩) L.length cv) L S S H ⟨sb, so, .slice ai sids.length cs, sids⟩ wx)
        case first =>
          go_region_held_law (fun w' => w'.cell? ⟨H, 1, none⟩ = some (.int .i64 so) ∧ w'.cell? ⟨H, 2, none⟩ = some (.slice ai sids.length cs))
            (first | exact ⟨b1, b2⟩ | exact KB _ hBc | exact KB _ hBr)
            (first
              | (go_at_call 17; refine (KD _ (by first | exact hBr | exact (Below.refl _ _).drew)).mono ?_; rintro e wc1 ⟨rfl, hbc⟩; have hBc : Below wa.heap.size wa wc1 := by first | exact ((Below.refl _ _).drew).trans hbc | exact hBr.trans (hbc.mono hBr.size))
              | (go_at_call 21; refine (KE _ (by first | exact hBc | exact (Below.refl _ _).drew)).mono ?_; rintro e wr1 ⟨rfl, hbr⟩; have hBr : Below wa.heap.size wa wr1 := by first | exact ((Below.refl _ _).drew).trans hbr | exact hBc.trans (hbr.mono hBc.size)))
          all_goals (go_wp2_with fail; go_meet; first | exact ⟨by simp, hPA.later hBr⟩ | exact ⟨by simp, hPA.later hBc⟩)
        case rest =>
          obtain ⟨rfl, hPA⟩ := hcut
          clear KB KD KE b0 b1 b2 hHlt
          cases hb9 : (((k : Int) % 9) == 8) with
          | true =>
            have k1 := ask_arg hPA.1.1 so sids _ hids (by omega) hS
            have S1ok := leftM_ok hS so sids (by omega)
            obtain ⟨b0, b1, b2⟩ := hPA.2.2.cells
            generalize hAA : askM S so sids = A1 at *
            generalize hEE : errM S so = E1 at *
            have k2 : ∀ W, PA w p q (.slice (some ⟨bv, ov, none⟩) L.length cv) L (leftM S so sids) S H ⟨sb, so, .slice ai sids.length cs, sids⟩ W → Calls Try.prog 22 #[.pointer (some ⟨q, 0, none⟩), .int .i64 so, .slice ai sids.length cs] W fun e w' => e = .returned (.tuple #[.bool A1, .int .i64 E1]) ∧ RClkAt w' w.heap.size q (leftM S so sids) ∧ W.grownBy w' (some q) := fun W h => by
              rw [← hAA, ← hEE]; exact rask_any S so sids W w.heap.size q _ h.2.1 (hids.later h.1.1.2) (ids_far hids h.2.1.1) (by omega) hS h.1.1.2.size
            generalize leftM S so sids = S1 at *
            clear hAA hEE
            go_wp2_with fail
            refine k1.mono ?_
            rintro e w5 ⟨rfl, c5, hg5⟩
            have h5 := hPA.askc hfar c5 hg5
            obtain ⟨x0, x1, x2⟩ := h5.2.2.cells
            have k3 := k2 w5 h5
            clear k1 k2 c5 hg5 hPA b0 b1 b2
            go_wp2_with fail
            refine k3.mono ?_
            rintro e w6 ⟨rfl, r6, hg6⟩
            have h6 := h5.askr hfarq r6 hg6
            obtain ⟨y0, y1, y2⟩ := h6.2.2.cells
            obtain ⟨_, _, _, _, _, _, _, z6, _, _, _⟩ := h6.2.1.cells
            have hs1 := S1ok.n0
            have hs2 := S1ok.n1
            clear k3 h5 r6 hg6 x0 x1 x2
            go_upto_region 19 with fail
            obtain ⟨NN, hNN⟩ : ∃ NN : Int, NN = max (N + M) S1.now := ⟨_, rfl⟩
            have hNa : 0 ≤ NN := by omega
            have hNb : NN ≤ 1099511627776 + (k + 1 : Nat) * 60 := by omega
            rw [← hNN]
            clear hNN
            have k1 := ask_arg h6.1.1 NN sids _ hids (by omega) S1ok
            have T1ok := leftM_ok S1ok NN sids (by omega)
            generalize hAA : askM S1 NN sids = A2 at *
            generalize hEE : errM S1 NN = E2 at *
            have k2 : ∀ W, PA w p q (.slice (some ⟨bv, ov, none⟩) L.length cv) L (leftM S1 NN sids) S1 H ⟨sb, so, .slice ai sids.length cs, sids⟩ W → Calls Try.prog 22 #[.pointer (some ⟨q, 0, none⟩), .int .i64 NN, .slice ai sids.length cs] W fun e w' => e = .returned (.tuple #[.bool A2, .int .i64 E2]) ∧ RClkAt w' w.heap.size q (leftM S1 NN sids) ∧ W.grownBy w' (some q) := fun W h => by
              rw [← hAA, ← hEE]; exact rask_any S1 NN sids W w.heap.size q _ h.2.1 (hids.later h.1.1.2) (ids_far hids h.2.1.1) (by omega) S1ok h.1.1.2.size
            generalize leftM S1 NN sids = T1 at *
            clear hAA hEE
            go_wp2_with fail
            refine k1.mono ?_
            rintro e w7 ⟨rfl, c7, hg7⟩
            have h7 := h6.askc hfar c7 hg7
            obtain ⟨x0, x1, x2⟩ := h7.2.2.cells
            have k3 := k2 w7 h7
            clear k1 k2 c7 hg7 h6 y0 y1 y2
            go_wp2_with fail
            refine k3.mono ?_
            rintro e w8 ⟨rfl, r8, hg8⟩
            have h8 := h7.askr hfarq r8 hg8
            clear k3 h7 r8 hg8 x0 x1 x2
            obtain ⟨tv, _, _, _, _, u4', u5', u6', hql, htv, _⟩ := h8.2.1.cells
            have hT := T1ok.t
            go_upto_region 21 with fail
            go_cut [152] (fun s wx => s = .bool false ∧ PA w p q (.slice (some ⟨bv, ov, none⟩) L.length cv) L T1 T1 H ⟨sb, so, .slice ai sids.length cs, sids⟩ wx)
            case first =>
              have KL := last_any T1 w8.drew w.heap.size p h8.1.1.1
              have KN := now_any T1 w8.drew w.heap.size p h8.1.1.1
              have KT := told_any T1 w8.drew w.heap.size p h8.1.1.1 (by omega)
              have KQ : ∀ W, Below w8.heap.size w8 W → W.cell? ⟨q, 4, none⟩ = some (.int .i64 T1.last) ∧ W.cell? ⟨q, 5, none⟩ = some tv ∧ W.cell? ⟨q, 6, none⟩ = some (.int .i64 T1.now) := fun W h =>
                ⟨(h.cell (p := ⟨q, 4, none⟩) hql).trans u4', (h.cell (p := ⟨q, 5, none⟩) hql).trans u5', (h.cell (p := ⟨q, 6, none⟩) hql).trans u6'⟩
              have KS : ∀ W v, Below w8.heap.size w8 W → IdsAt W v T1.told → Calls Try.prog 15 #[v, tv] W fun e w' => e = .returned (.bool true) ∧ Below W.heap.size W w' := fun W v hb hv => by
                have := same_any T1.told T1.told W v tv hv (IdsAt.own (own_later htv hb)) (by omega) (by omega)
                rwa [decide_eq_true rfl] at this
              clear htv
              generalize T1.last = TL at *
              generalize T1.now = TN at *
              go_region_held_law (fun w' => w'.cell? ⟨q, 4, none⟩ = some (.int .i64 TL) ∧ w'.cell? ⟨q, 5, none⟩ = some tv ∧ w'.cell? ⟨q, 6, none⟩ = some (.int .i64 TN))
                (first | exact ⟨u4', u5', u6'⟩ | exact KQ _ hBs | exact KQ _ hBt)
                (first
                  | (go_at_call 18; refine KL.mono ?_; rintro e wl ⟨rfl, rfl⟩)
                  | (go_at_call 20; refine KN.mono ?_; rintro e wl ⟨rfl, rfl⟩)
                  | (go_at_call 19; refine KT.mono ?_; rintro e wt1 ⟨vt, rfl, hvt, hbt⟩; have hBt : Below w8.heap.size w8 wt1 := ((Below.refl _ _).drew).trans hbt)
                  | (go_at_call 15; refine (KS _ _ hBt hvt).mono ?_; rintro e ws1 ⟨rfl, hbs⟩; have hBs : Below w8.heap.size w8 ws1 := hBt.trans (hbs.mono hBt.size)))
              all_goals (go_wp2_with fail; go_meet; exact ⟨by simp, h8.later hBs⟩)
            case rest =>
              obtain ⟨rfl, h9⟩ := hcut
              clear u4' u5' u6' h8 htv
              go_wp2
              go_roundw
              case rel => exact ⟨k + 1, NN, T1, by omega, by go_num, rfl, hNa, hNb, T1ok, h9.1, h9.2.1⟩
              case measure => simp [intOf]; omega
          | false =>
            obtain ⟨y0, y1, y2⟩ := hPA.2.2.cells
            go_upto_region 19 with fail
            obtain ⟨NN, hNN⟩ : ∃ NN : Int, NN = N + M := ⟨_, rfl⟩
            have hNa : 0 ≤ NN := by omega
            have hNb : NN ≤ 1099511627776 + (k + 1 : Nat) * 60 := by omega
            rw [← hNN]
            clear hNN
            have k1 := ask_arg hPA.1.1 NN sids _ hids (by omega) hS
            have T1ok := leftM_ok hS NN sids (by omega)
            generalize hAA : askM S NN sids = A2 at *
            generalize hEE : errM S NN = E2 at *
            have k2 : ∀ W, PA w p q (.slice (some ⟨bv, ov, none⟩) L.length cv) L (leftM S NN sids) S H ⟨sb, so, .slice ai sids.length cs, sids⟩ W → Calls Try.prog 22 #[.pointer (some ⟨q, 0, none⟩), .int .i64 NN, .slice ai sids.length cs] W fun e w' => e = .returned (.tuple #[.bool A2, .int .i64 E2]) ∧ RClkAt w' w.heap.size q (leftM S NN sids) ∧ W.grownBy w' (some q) := fun W h => by
              rw [← hAA, ← hEE]; exact rask_any S NN sids W w.heap.size q _ h.2.1 (hids.later h.1.1.2) (ids_far hids h.2.1.1) (by omega) hS h.1.1.2.size
            generalize leftM S NN sids = T1 at *
            clear hAA hEE
            go_wp2_with fail
            refine k1.mono ?_
            rintro e w7 ⟨rfl, c7, hg7⟩
            have h7 := hPA.askc hfar c7 hg7
            obtain ⟨x0, x1, x2⟩ := h7.2.2.cells
            have k3 := k2 w7 h7
            clear k1 k2 c7 hg7 hPA y0 y1 y2
            go_wp2_with fail
            refine k3.mono ?_
            rintro e w8 ⟨rfl, r8, hg8⟩
            have h8 := h7.askr hfarq r8 hg8
            clear k3 h7 r8 hg8 x0 x1 x2
            obtain ⟨tv, _, _, _, _, u4', u5', u6', hql, htv, _⟩ := h8.2.1.cells
            have hT := T1ok.t
            go_upto_region 21 with fail
            go_cut [152] (fun s wx => s = .bool false ∧ PA w p q (.slice (some ⟨bv, ov, none⟩) L.length cv) L T1 T1 H ⟨sb, so, .slice ai sids.length cs, sids⟩ wx)
            case first =>
              have KL := last_any T1 w8.drew w.heap.size p h8.1.1.1
              have KN := now_any T1 w8.drew w.heap.size p h8.1.1.1
              have KT := told_any T1 w8.drew w.heap.size p h8.1.1.1 (by omega)
              have KQ : ∀ W, Below w8.heap.size w8 W → W.cell? ⟨q, 4, none⟩ = some (.int .i64 T1.last) ∧ W.cell? ⟨q, 5, none⟩ = some tv ∧ W.cell? ⟨q, 6, none⟩ = some (.int .i64 T1.now) := fun W h =>
                ⟨(h.cell (p := ⟨q, 4, none⟩) hql).trans u4', (h.cell (p := ⟨q, 5, none⟩) hql).trans u5', (h.cell (p := ⟨q, 6, none⟩) hql).trans u6'⟩
              have KS : ∀ W v, Below w8.heap.size w8 W → IdsAt W v T1.told → Calls Try.prog 15 #[v, tv] W fun e w' => e = .returned (.bool true) ∧ Below W.heap.size W w' := fun W v hb hv => by
                have := same_any T1.told T1.told W v tv hv (IdsAt.own (own_later htv hb)) (by omega) (by omega)
                rwa [decide_eq_true rfl] at this
              clear htv
              generalize T1.last = TL at *
              generalize T1.now = TN at *
              go_region_held_law (fun w' => w'.cell? ⟨q, 4, none⟩ = some (.int .i64 TL) ∧ w'.cell? ⟨q, 5, none⟩ = some tv ∧ w'.cell? ⟨q, 6, none⟩ = some (.int .i64 TN))
                (first | exact ⟨u4', u5', u6'⟩ | exact KQ _ hBs | exact KQ _ hBt)
                (first
                  | (go_at_call 18; refine KL.mono ?_; rintro e wl ⟨rfl, rfl⟩)
                  | (go_at_call 20; refine KN.mono ?_; rintro e wl ⟨rfl, rfl⟩)
                  | (go_at_call 19; refine KT.mono ?_; rintro e wt1 ⟨vt, rfl, hvt, hbt⟩; have hBt : Below w8.heap.size w8 wt1 := ((Below.refl _ _).drew).trans hbt)
                  | (go_at_call 15; refine (KS _ _ hBt hvt).mono ?_; rintro e ws1 ⟨rfl, hbs⟩; have hBs : Below w8.heap.size w8 ws1 := hBt.trans (hbs.mono hBt.size)))
              all_goals (go_wp2_with fail; go_meet; exact ⟨by simp, h8.later hBs⟩)
            case rest =>
              obtain ⟨rfl, h9⟩ := hcut
              clear u4' u5' u6' h8 htv
              go_wp2
              go_roundw
              case rel => exact ⟨k + 1, NN, T1, by omega, by go_num, rfl, hNa, hNb, T1ok, h9.1, h9.2.1⟩
              case measure => simp [intOf]; omega
      · have hC := hHr.1
        obtain ⟨_, _, _, e2, _, _, _, _, _, _, _⟩ := hRr.cells
        rcases Int.lt_or_le 3000 S.rep with h3 | h3
        · clear hHr hRr
          have HC := Lib.hid hC
          clear hC
          generalize S.rep = R at *
          go_wp2
          go_ret
          exact ⟨rfl, HC.out.2⟩
        · have a1 := alloc_below wr (.cells #[U 1] 45)
          have hC1 := hC.later a1
          have hR1 := hRr.later a1
          have k1 := next_any S [1] _ w.heap.size p _ hC1.1 (one_ids wr 1) (by simp) hS
          obtain ⟨X, hX⟩ : ∃ X, nextM S [1] = X := ⟨_, rfl⟩
          have k2 : ∀ W, Cs w p S W → RClkAt W w.heap.size q S → Calls Try.prog 23 #[.pointer (some ⟨q, 0, none⟩), .slice (some ⟨W.heap.size, 0, none⟩) 1 1] (W.alloc (.cells #[U 1] 45)) fun e w' => e = .returned (.int .i64 X) ∧ Below (W.alloc (.cells #[U 1] 45)).heap.size (W.alloc (.cells #[U 1] 45)) w' := fun W h1 h2 => by
            rw [← hX]; exact rnext_any S [1] _ w.heap.size q _ (h2.later (alloc_below _ _)) (one_ids W 1) (by simp) hS (h1.later (alloc_below _ _)).2.size
          rw [hX] at k1
          clear hX hHr hRr hC
          generalize S.rep = R at *
          go_wp2_with fail
          refine k1.mono ?_
          rintro e w5 ⟨rfl, hb5⟩
          have h5 := hC1.later hb5
          have k3 := k2 w5 h5 (hR1.later hb5)
          clear k1 k2 hC1 hR1 hb5
          go_wp2_with fail
          refine k3.mono ?_
          rintro e w6 ⟨rfl, hb6⟩
          have h6 := (h5.later (alloc_below _ _)).later hb6
          clear k3 h5
          go_wp2
          go_ret
          exact ⟨rfl, h6.2⟩
end Go.Proofs.Ytkhcckfnaahbeaa.lawPlays
