/- pattern's near: a contract. -/
import Derived.Test.YtlepnnbgecneeaaPatI
import Derived.Test.YtlepnnbgecneeaaPatJ
import Derived.Test.YtlepnnbgecneeaaPatX
namespace Go.Proofs.Ytlepnnbgecneeaa
open Go.RowKit

def natAt (w : World) (g j : Nat) : Nat := match w.cell? ⟨g, j, none⟩ with
  | some (.int _ z) => z.toNat
  | _ => 0
def sumW (w : World) (g n : Nat) : Nat := ((List.range n).map (natAt w g)).sum
/-- the row of distances -/
def RowD (w : World) (base g cap : Nat) (d : List Nat) : Prop := w.ownsRow base 3 1 (.slice (some ⟨g, 0, none⟩) d.length cap) d.length (freeC d)
theorem freeC_get (d : List Nat) {j : Nat} (h : j < d.length) : (freeC d)[j]? = some (.int .i64 (d.getD j 0 : Nat)) := by
  rw [freeC_at d j h, List.getD_eq_getElem?_getD, List.getElem?_eq_getElem h]; rfl
theorem RowD.cell {w : World} {base g cap : Nat} {d : List Nat} (h : RowD w base g cap d) {j : Nat} (hj : j < d.length) : w.cell? ⟨g, j, none⟩ = some (.int .i64 (d.getD j 0 : Nat)) ∧ w.frozen? ⟨g, j, none⟩ = false :=
  ownsRow_cell h rfl (freeC_get d hj)
theorem RowD.sum {w : World} {base g cap : Nat} {d : List Nat} (h : RowD w base g cap d) : sumW w g d.length = d.sum := by
  unfold sumW
  congr 1
  apply List.ext_getElem
  · simp
  · intro i h1 h2
    simp only [List.getElem_map, List.getElem_range]
    unfold natAt
    rw [(h.cell (j := i) (by simpa using h1)).1]
    simp only [Int.toNat_natCast]
    rw [List.getD_eq_getElem?_getD, List.getElem?_eq_getElem h2]; rfl
theorem RowD.put {w : World} {base g cap : Nat} {d : List Nat} (h : RowD w base g cap d) (k b : Nat) : RowD (w.setCell ⟨g, k, none⟩ (.int .i64 b)) base g cap (d.set k b) := by
  have h1 := ownsRow_set h (g := g) (j := k) rfl (.int .i64 (b : Int))
  unfold RowD
  rw [List.length_set]
  have e : (freeC d).set k (.int .i64 (b : Int)) = freeC (d.set k b) := by unfold freeC; rw [List.map_set]
  rw [e] at h1
  exact h1
def flagV : Value → Nat
  | .bool true => 1
  | _ => 0
/-- how far a round is -/
def Prog (sts : List St) (d0 d : List Nat) (more : Bool) (k : Nat) : Prop := (more = false → d = d0 ∧ ∀ j, j < k → FixAt sts d0 j) ∧ (more = true → d.sum < d0.sum)
theorem free_cells {w : World} {e : TypeId} {fv : Value} {l : List Nat} (h : w.ownsRow 0 e 1 fv l.length (freeC l)) : ∃ a c, fv = .slice a l.length c ∧ ∀ j, j < l.length → ∃ b, a = some ⟨b, 0, none⟩ ∧ b < w.heap.size ∧ w.cell? ⟨b, j, none⟩ = some (.int .i64 (l.getD j 0 : Nat)) := by
  rcases h.2 with ⟨rfl, h0⟩ | ⟨g, cap, _, rfl, _, hg, _⟩
  · exact ⟨_, _, by rw [h0], fun j hj => by omega⟩
  · exact ⟨_, _, rfl, fun j hj => ⟨g, rfl, (Array.getElem?_eq_some_iff.1 hg).1, (ownsRow_cell h rfl (freeC_get l hj)).1⟩⟩
theorem PtrAt.shape {w : World} {own : Nat → Prop} {x : St} {v : Value} (h : PtrAt w own x v) : ∃ p, v = .pointer p := by
  unfold PtrAt at h
  split at h
  · exact ⟨_, h⟩
  · obtain ⟨k, h1, _⟩ := h; exact ⟨_, h1⟩
set_option maxHeartbeats 6400000 in
set_option maxRecDepth 100000 in
theorem near_is (w : World) (a : Nat) (s : ByteArray) (sts : List St) (st en : Nat) (hp : PatAt w a s sts st en) (hw : SWf sts) (hN : tot sts ≤ 100000) (he : en < sts.length) :
    Calls Try.prog 23 #[.pointer (some ⟨a, 0, none⟩)] w fun e w' => ∃ g cap d, e = .returned (.slice (some ⟨g, 0, none⟩) d.length cap) ∧ RowD w' w.heap.size g cap d ∧ Near sts en d ∧ Below w.heap.size w w' := by
  have hNl : sts.length ≤ 100000 := Nat.le_trans (len_tot _) hN
  obtain ⟨sa, sn, sc, c1, _, _, c3, halt, hst⟩ := hp.cells
  obtain ⟨r, cap0, _, _, hsv, hrl, _⟩ := hst en he
  simp only [Value.slice.injEq] at hsv
  obtain ⟨hsa, hsn, hsc⟩ := hsv
  subst hsa hsn hsc
  have HW := Lib.hid hw
  have HST := Lib.hid hst
  obtain ⟨n, hn⟩ : ∃ n, sts.length = n := ⟨_, rfl⟩
  rw [hn] at c1 hNl
  have hen : en < n := hn ▸ he
  have x0 := heap_alloc_new w (.cells #[.int .i64 301] 3)
  have hrep := repeat_is (w.alloc (.cells #[.int .i64 301] 3)) 301 n w.heap.size 0 1 (by omega) hNl (by rw [cell_of_row _ _ _ _ _ _ x0]; rfl)
  rw [World.size_alloc] at hrep
  have hba := alloc_below w (.cells #[.int .i64 301] 3)
  have hsz0 := World.size_alloc w (.cells #[.int .i64 301] 3)
  have d1 := keep_cell c1 hba halt
  have d3 := keep_cell c3 hba halt
  clear hp hw hst x0
  have HREP := Lib.hid hrep
  have HBA := Lib.hid hba
  clear hrep hba
  go_enter Try.func23, Try.ntmps23
  go_wp2_with fail
  refine HREP.out.mono ?_
  rintro e w1 ⟨g, cap, rfl, hown, hb1⟩
  have hB1 : Below w.heap.size w w1 := HBA.out.trans (hb1.mono (by omega))
  have hR1 : RowD w1 w.heap.size g cap (List.replicate n 301) := by
    unfold RowD
    rw [List.length_replicate]
    have e : freeC (List.replicate n 301) = List.replicate n (.int .i64 301) := by unfold freeC; rw [List.map_replicate]; rfl
    rw [e]
    exact own_base hown (by omega)
  obtain ⟨f1, f2⟩ := hR1.cell (j := en) (by simpa using hen)
  have hge : w.heap.size ≤ g := (hR1.lt g rfl).1
  have q1 := keep_cell c1 hB1 halt
  have q3 := keep_cell c3 hB1 halt
  have R2 := Lib.hid (hR1.put en 0)
  have B2 := Lib.hid (below_put (j := en) (x := .int .i64 (0 : Nat)) hB1 hge)
  have en0 : (0 : Int) ≤ (en : Int) := by omega
  have en1 : (en : Int) < (n : Int) := by omega
  clear hown hb1 hB1 hR1 HREP HBA d1 d3 hsz0
  have hlen0 : (List.replicate n 301).length = n := List.length_replicate
  go_upto_region 4 with fail
  go_loopw [4] (fun vm wr => ∃ (more : Bool) (d : List Nat), vm = .bool more ∧ Hid (NJ sts en d) ∧ Hid (RowD wr w.heap.size g cap d) ∧ Hid (Below w.heap.size w wr) ∧ Hid (more = false → ∀ j, j < n → FixAt sts d j)) (fun vm wr => 2 * sumW wr g n + flagV vm)
  case atStart => exact ⟨true, _, rfl, Lib.hid (NJ.start hn.symm he), R2, B2, Lib.hid (fun h => by cases h)⟩
  case round =>
    clear R2 B2 f1 f2 q1 q3
    obtain ⟨more, d0, rfl, HJ0, HR0, HB0, HF0⟩ := hrel
    have hd0 : d0.length = n := by rw [HJ0.out.len, hn]
    cases more with
    | false =>
      go_wp2
      go_ret
      refine ⟨g, cap, d0, by rw [hd0]; rfl, HR0.out, ⟨HJ0.out, fun k hk => HF0.out trivial k (hn ▸ hk)⟩, HB0.out⟩
    | true =>
      have q1 := keep_cell c1 HB0.out halt
      have hs0 : sumW wr g n = d0.sum := by rw [← hd0]; exact HR0.out.sum
      have HS0 := Lib.hid hs0
      clear hs0
      go_upto_region 7 with fail
      clear q1
      go_loopw [4, 29] (fun vm vk wk => ∃ (more : Bool) (k : Nat) (d : List Nat), vm = .bool more ∧ vk = .int .i64 k ∧ k ≤ n ∧ Hid (NJ sts en d) ∧ Hid (RowD wk w.heap.size g cap d) ∧ Hid (Below w.heap.size w wk) ∧ Hid (Prog sts d0 d more k)) (fun _ vk _ => n - (intOf vk).toNat)
      case atStart => exact ⟨false, 0, d0, rfl, rfl, Nat.zero_le _, HJ0, HR0, HB0, Lib.hid ⟨fun _ => ⟨rfl, fun j hj => absurd hj (Nat.not_lt_zero j)⟩, fun h => by cases h⟩⟩
      case round =>
        clear HR0 HB0 HF0
        obtain ⟨more, k, d, rfl, rfl, hk, HJ, HR, HB, HP⟩ := hrel
        have hd : d.length = n := by rw [HJ.out.len, hn]
        by_cases hkn : k < n
        · have hks : k < sts.length := hn ▸ hkn
          obtain ⟨r', cap', pv, fv, hsv, _, p0, p1, p2, hptr, hfr⟩ := HST.out k hks
          simp only [Value.slice.injEq, Option.some.injEq, Addr.mk.injEq] at hsv
          obtain ⟨⟨rfl, _, _⟩, _, rfl⟩ := hsv
          have hx : sts[k]? = some sts[k] := List.getElem?_eq_getElem hks
          have HX := Lib.hid hx
          obtain ⟨x, hxe⟩ : ∃ x, sts[k] = x := ⟨_, rfl⟩
          rw [hxe] at p1 hptr hfr hx
          obtain ⟨fa, fc, rfl, hfc⟩ := free_cells hfr
          obtain ⟨pa, rfl⟩ := hptr.shape
          obtain ⟨nx, hnx⟩ : ∃ nx, x.next = nx := ⟨_, rfl⟩
          obtain ⟨fn, hfn⟩ : ∃ fn, x.free.length = fn := ⟨_, rfl⟩
          have hxm := List.mem_of_getElem? hx
          have hfl : fn ≤ 100000 := by rw [← hfn]; exact Nat.le_trans (free_tot sts x hxm) hN
          have hnxl : nx < n := by rw [← hnx, ← hn]; exact (HW.out x hxm).2
          rw [hnx] at p1
          rw [hfn] at p2 hfc
          have d2 := keep_cell p0 HB.out hrl
          have d3 := keep_cell p1 HB.out hrl
          have d4 := keep_cell p2 HB.out hrl
          obtain ⟨vk, hvk⟩ : ∃ v, d.getD k 0 = v := ⟨_, rfl⟩
          have hb1 : Below w.heap.size w (wr.alloc (.cells #[.pointer pa, .int .i64 nx, .slice fa fn fc] 85)) := HB.out.alloc HB.out.size _
          have hR1 : RowD (wr.alloc (.cells #[.pointer pa, .int .i64 nx, .slice fa fn fc] 85)) w.heap.size g cap d := HR.out.alloc _
          have x0 := heap_alloc_new wr (.cells #[.pointer pa, .int .i64 nx, .slice fa fn fc] 85)
          have e0 : (wr.alloc (.cells #[.pointer pa, .int .i64 nx, .slice fa fn fc] 85)).cell? ⟨wr.heap.size, 0, none⟩ = some (.pointer pa) := by rw [cell_of_row _ _ _ _ _ _ x0]; rfl
          have e1 : (wr.alloc (.cells #[.pointer pa, .int .i64 nx, .slice fa fn fc] 85)).cell? ⟨wr.heap.size, 1, none⟩ = some (.int .i64 nx) := by rw [cell_of_row _ _ _ _ _ _ x0]; rfl
          have e2 : (wr.alloc (.cells #[.pointer pa, .int .i64 nx, .slice fa fn fc] 85)).cell? ⟨wr.heap.size, 2, none⟩ = some (.slice fa fn fc) := by rw [cell_of_row _ _ _ _ _ _ x0]; rfl
          have hwr : g < wr.heap.size := (HR.out.lt g rfl).2
          obtain ⟨hdk1, hdk2⟩ := hR1.cell (j := k) (by omega)
          rw [hvk] at hdk1
          have hv3 : vk ≤ 301 := hvk ▸ (HJ.out.ok k hks).1
          have HBS : Hid (Best sts en d k 0 vk x.free) := Lib.hid (hvk ▸ Best.start HJ.out hks _)
          have hfin1 : ∀ b', Full sts en d k b' x → b' < vk → Hid (NJ sts en (d.set k b')) ∧ Hid (Prog sts d0 (d.set k b') true (k + 1)) := fun b' hf hb => by
            have hb2 : b' < d.getD k 0 := hvk ▸ hb
            have hsum := sum_set (d := d) (k := k) (b := b') (by omega) hb2
            refine ⟨Lib.hid (hf.put HJ.out hks hb2), Lib.hid ⟨(fun h => by cases h), fun _ => ?_⟩⟩
            cases hmo : more with
            | false => rw [(HP.out.1 hmo).1] at hsum ⊢; exact hsum
            | true => exact Nat.lt_trans hsum (HP.out.2 hmo)
          have hfin2 : ∀ b', Full sts en d k b' x → ¬ b' < vk → Hid (Prog sts d0 d more (k + 1)) := fun b' hf hb => Lib.hid ⟨fun h => by
            obtain ⟨h1, h2⟩ := HP.out.1 h
            refine ⟨h1, fun j hj => ?_⟩
            rcases Nat.lt_or_ge j k with h3 | h3
            · exact h2 j h3
            · obtain rfl : j = k := by omega
              rw [← h1]; exact hf.keep hx (hvk ▸ hb), HP.out.2⟩
          have HF1 := Lib.hid hfin1
          have HF2 := Lib.hid hfin2
          clear hfin1 hfin2
          have hk0 : (0 : Int) ≤ (k : Int) := by omega
          have hk1 : (k : Int) < (n : Int) := by omega
          have HD2 := Lib.hid hfc
          have HPT := Lib.hid hptr
          clear p0 p1 p2 hfc hptr hfr
          have hbs : ∀ b, b < w.heap.size → b ≠ wr.heap.size := fun b hb e => by have := HB.out.size; omega
          go_upto_region 9 with fail
          generalize hW : wr.alloc (.cells #[.pointer pa, .int .i64 nx, .slice fa fn fc] 85) = W at *
          generalize hbx : wr.heap.size = bx at *
          have HR1 := Lib.hid hR1
          have HB1 := Lib.hid hb1
          clear hR1 hb1 x0 hW hvk d2 d3 d4 HR HB hwr hbs hbx
          go_upto_region 11 with fail
          go_loopw [7, 41] (fun vb vj wr => ∃ (b j : Nat), vb = .int .i64 b ∧ vj = .int .i64 j ∧ j ≤ fn ∧ b ≤ 301 ∧ Hid (Best sts en d k j b x.free) ∧ wr = W) (fun _ vj _ => fn - (intOf vj).toNat)
          case atStart => exact ⟨vk, 0, rfl, rfl, Nat.zero_le _, hv3, HBS, rfl⟩
          case round =>
            obtain ⟨b, j, rfl, rfl, hj, hb3, HBE, rfl⟩ := hrel
            by_cases hjf : j < fn
            · obtain ⟨fb, rfl, hfb, hfcell⟩ := HD2.out j hjf
              have hfj : j < x.free.length := by rw [hfn]; exact hjf
              obtain ⟨f, hfe⟩ : ∃ f, x.free.getD j 0 = f := ⟨_, rfl⟩
              have hfe2 : x.free[j] = f := by rw [← hfe, List.getD_eq_getElem?_getD, List.getElem?_eq_getElem hfj]; rfl
              rw [hfe] at hfcell
              have z1 := keep_cell hfcell HB1.out hfb
              have hfl2 : f < n := by rw [← hfe2, ← hn]; exact (HW.out x hxm).1 _ (List.getElem_mem hfj)
              have z2 := (HR1.out.cell (j := f) (by omega)).1
              have hf0 : (0 : Int) ≤ (f : Int) := by omega
              have hf1 : (f : Int) < (n : Int) := by omega
              have HB2 := Lib.hid (HBE.out.next HJ.out HW.out hx hfj)
              rw [hfe2] at HB2
              obtain ⟨v, hv⟩ : ∃ v, d.getD f 0 = v := ⟨_, rfl⟩
              rw [hv] at z2 HB2
              go_wp2
              refine ⟨⟨min b v, j + 1, by go_num, by go_num, by omega, by omega, HB2, trivial⟩, by simp [intOf]; omega⟩
            · obtain rfl : j = fn := by omega
              have HBF : Hid (Best sts en d k x.free.length b x.free) := Lib.hid (by rw [hfn]; exact HBE.out)
              clear HBE
              have hpt := HPT.out
              cases pa with
              | none =>
                have hnone : x.set = none := by
                  unfold PtrAt at hpt
                  split at hpt
                  · assumption
                  · obtain ⟨q, h1, _⟩ := hpt; cases h1
                have HFU : Hid (Full sts en d k b x) := Lib.hid (HBF.out.none (fun c _ => by unfold goB; rw [hnone]))
                clear hpt hnone
                by_cases hlt : b < vk
                · obtain ⟨h1, h2⟩ := HF1.out _ HFU.out hlt
                  go_wp2
                  refine ⟨⟨true, k + 1, d.set k (b), rfl, by go_num, by omega, h1, Lib.hid (HR1.out.put k b), Lib.hid (below_put HB1.out hge), h2⟩, by simp [intOf]; omega⟩
                · have h2 := HF2.out _ HFU.out hlt
                  go_wp2
                  refine ⟨⟨more, k + 1, d, rfl, by go_num, by omega, HJ, HR1, HB1, h2⟩, by simp [intOf]; omega⟩
              | some pk =>
                obtain ⟨kk, f, hpk, hset, hS⟩ : ∃ kk f, pk = ⟨kk, 0, none⟩ ∧ x.set = some f ∧ SetAt w kk f := by
                  unfold PtrAt at hpt
                  split at hpt
                  · cases hpt
                  · rename_i f hf
                    obtain ⟨q, h1, h2, _⟩ := hpt
                    exact ⟨q, f, by injection h1 with h1; injection h1, hf, h2⟩
                subst hpk
                have hS1 : SetAt _ kk f := hS.blk (HB1.out.block kk hS.lt)
                obtain ⟨ws, hws, hbk⟩ := hS1
                obtain ⟨a0, a1, a2, a3, rfl⟩ : ∃ a0 a1 a2 a3, ws = [a0, a1, a2, a3] := by
                  match ws, hws.1 with
                  | [a, b, c, d], _ => exact ⟨a, b, c, d, rfl⟩
                have hz := words_zero hws
                have HWS := Lib.hid hws
                have c0 : wr.cell? ⟨kk, 0, none⟩ = some (.int .u64 a0) := by rw [cell_of_row _ _ _ _ _ _ hbk]; rfl
                have c1' : wr.cell? ⟨kk, 1, none⟩ = some (.int .u64 a1) := by rw [cell_of_row _ _ _ _ _ _ hbk]; rfl
                have c2' : wr.cell? ⟨kk, 2, none⟩ = some (.int .u64 a2) := by rw [cell_of_row _ _ _ _ _ _ hbk]; rfl
                have c3' : wr.cell? ⟨kk, 3, none⟩ = some (.int .u64 a3) := by rw [cell_of_row _ _ _ _ _ _ hbk]; rfl
                have heq := run_eq_set wr a0 a1 a2 a3
                clear hpt hws hS hbk
                by_cases hzz : [a0, a1, a2, a3] = [0, 0, 0, 0]
                · have hno := hz.1 hzz
                  have HFU : Hid (Full sts en d k b x) := Lib.hid (HBF.out.none (fun c hc => by unfold goB; rw [hset]; exact hno c hc))
                  rw [decide_eq_true hzz] at heq
                  clear hz hno hset hzz
                  by_cases hlt : b < vk
                  · obtain ⟨h1, h2⟩ := HF1.out _ HFU.out hlt
                    go_wp2
                    refine ⟨⟨true, k + 1, d.set k (b), rfl, by go_num, by omega, h1, Lib.hid (HR1.out.put k b), Lib.hid (below_put HB1.out hge), h2⟩, by simp [intOf]; omega⟩
                  · have h2 := HF2.out _ HFU.out hlt
                    go_wp2
                    refine ⟨⟨more, k + 1, d, rfl, by go_num, by omega, HJ, HR1, HB1, h2⟩, by simp [intOf]; omega⟩
                · have hex : ∃ c, c < 256 ∧ f c = true := by
                    apply Classical.byContradiction
                    intro hne
                    refine hzz (hz.2 fun c hc => ?_)
                    cases hfc : f c with
                    | false => rfl
                    | true => exact absurd ⟨c, hc, hfc⟩ hne
                  obtain ⟨c, hc, hfc⟩ := hex
                  obtain ⟨vn, hvn⟩ : ∃ v, d.getD nx 0 = v := ⟨_, rfl⟩
                  have HFU : Hid (Full sts en d k (min b (vn + 1)) x) := Lib.hid (by
                    have := HBF.out.some HJ.out HW.out hx hc (by unfold goB; rw [hset]; exact hfc) hb3
                    rw [hnx, hvn] at this; exact this)
                  have z2 := (HR1.out.cell (j := nx) (by omega)).1
                  rw [hvn] at z2
                  have hn0 : (0 : Int) ≤ (nx : Int) := by omega
                  have hn1 : (nx : Int) < (n : Int) := by omega
                  have hvn3 : vn ≤ 301 := by rw [← hvn]; exact (HJ.out.ok nx (hn ▸ hnxl)).1
                  rw [decide_eq_false hzz] at heq
                  clear hz hset hfc hvn hzz
                  by_cases hlt : min b (vn + 1) < vk
                  · obtain ⟨h1, h2⟩ := HF1.out _ HFU.out hlt
                    go_wp2
                    refine ⟨⟨true, k + 1, d.set k (min b (vn + 1)), rfl, by go_num, by omega, h1, Lib.hid (by have h := HR1.out.put k (min b (vn + 1)); rw [show ((min b (vn + 1) : Nat) : Int) = min (b : Int) ((vn : Int) + 1) by omega] at h; exact h), Lib.hid (below_put HB1.out hge), h2⟩, by simp [intOf]; omega⟩
                  · have h2 := HF2.out _ HFU.out hlt
                    go_wp2
                    refine ⟨⟨more, k + 1, d, rfl, by go_num, by omega, HJ, HR1, HB1, h2⟩, by simp [intOf]; omega⟩
        · obtain rfl : k = n := by omega
          have hsm : sumW wr g k = d.sum := by rw [← hd]; exact HR.out.sum
          have hs0 := HS0.out
          go_wp2
          refine ⟨⟨more, d, rfl, HJ, HR, HB, Lib.hid (fun h => by obtain ⟨h1, h2⟩ := HP.out.1 h; rw [h1]; exact h2)⟩, ?_⟩
          rw [hsm, hs0]
          cases hmo : more with
          | false => rw [(HP.out.1 hmo).1]; simp [flagV]
          | true => have := HP.out.2 hmo; simp [flagV]; omega
end Go.Proofs.Ytlepnnbgecneeaa
