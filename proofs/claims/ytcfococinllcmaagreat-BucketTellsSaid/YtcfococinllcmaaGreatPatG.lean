/- pattern's Fits, of a pattern and of a text: contracts. -/
import Derived.Test.YtcfococinllcmaaGreatPatF
import Derived.Test.YtcfococinllcmaaGreatPatW
import Derived.Test.YtcfococinllcmaaGreatPatP
import Derived.Lib.ConvBytes
namespace Go.Proofs.YtcfococinllcmaaGreat
open Go.RowKit

/-! plain: the states behind some bytes -/
inductive Rn (sts : List St) (st : Nat) : List Nat → Nat → Prop
  | start {k : Nat} : FR sts st k → Rn sts st [] k
  | byte {cs : List Nat} {c j k : Nat} {x : St} : Rn sts st cs j → sts[j]? = some x → goB x c = true → FR sts x.next k → Rn sts st (cs ++ [c]) k
theorem Rn_nil {sts : List St} {st k : Nat} : Rn sts st [] k ↔ Cl sts [st] k := by
  constructor
  · intro h
    cases hcs : ([] : List Nat) with
    | nil => 
      generalize hg : ([] : List Nat) = l at h
      cases h with
      | start h => exact ⟨st, List.mem_singleton.2 rfl, h⟩
      | byte => simp at hg
    | cons => cases hcs
  · rintro ⟨j, hj, hr⟩
    rw [List.mem_singleton.1 hj] at hr
    exact .start hr
theorem Rn_snoc {sts : List St} {st : Nat} {cs : List Nat} {c k : Nat} {out : List Nat} (ho : ∀ k, k ∈ out ↔ Rn sts st cs k) : Rn sts st (cs ++ [c]) k ↔ Cl sts (goN sts c out) k := by
  constructor
  · intro h
    generalize hg : cs ++ [c] = l at h
    cases h with
    | start h => simp at hg
    | byte h1 h2 h3 h4 =>
      rename_i cs' c' j x
      obtain ⟨h5, h6⟩ := List.append_inj' hg rfl
      subst h5
      simp only [List.cons.injEq, and_true] at h6
      subst h6
      refine ⟨x.next, List.mem_flatMap.2 ⟨j, (ho j).2 h1, ?_⟩, h4⟩
      unfold go1; rw [h2]; simp [h3]
  · rintro ⟨j, hj, hr⟩
    obtain ⟨q, hq, h1⟩ := List.mem_flatMap.1 hj
    unfold go1 at h1
    split at h1
    · rename_i x hx
      split at h1
      · rename_i hg
        rw [List.mem_singleton.1 h1] at hr
        exact .byte ((ho q).1 hq) hx hg hr
      · cases h1
    · cases h1
theorem Rn_lt {sts : List St} (h : SWf sts) {st : Nat} (hs : st < sts.length) {cs : List Nat} {k : Nat} (hr : Rn sts st cs k) : k < sts.length := by
  cases hr with
  | start h1 => exact FR_lt h h1 hs
  | byte _ h2 _ h4 => exact FR_lt h h4 (h _ (List.mem_of_getElem? h2)).2
theorem rising_len {n : Nat} {l : List Nat} (h : RisingN l) (hb : ∀ k ∈ l, k < n) : l.length ≤ n := nodup_lt (h.imp (fun h => Nat.ne_of_lt h)) hb
/-- a text's bytes, as numbers -/
def bytesN (t : ByteArray) : List Nat := (B t).map (·.toNat)
theorem bytesN_len (t : ByteArray) : (bytesN t).length = t.size := by simp [bytesN]
theorem bytesN_lt {t : ByteArray} {c : Nat} (h : c ∈ bytesN t) : c < 256 := by
  obtain ⟨x, _, rfl⟩ := List.mem_map.1 h
  exact x.toNat_lt
/-- Contains of a row of numbers -/
theorem contains_row (w : World) (base : Nat) (l : List Nat) (v : Value) (x : Nat) (h : w.ownsRow base 3 1 v l.length (freeC l)) (hl : l.length ≤ 1000000) :
    Calls Tryz.prog 160 #[v, .int .i64 x] w fun e w' => ∃ b, e = .returned (.bool b) ∧ (b = true ↔ x ∈ l) ∧ w' = w := by
  rcases Nat.eq_zero_or_pos l.length with h0 | h0
  · have hnil : l = [] := List.length_eq_zero_iff.1 h0
    subst hnil
    obtain ⟨a, c, rfl, _⟩ := own_shape h
    refine (Tryz.slices_Contains_int_empty a c x w).mono ?_
    rintro e w' ⟨rfl, rfl⟩
    exact ⟨_, rfl, by simp, rfl⟩
  · obtain ⟨b, o, c, rfl, hcc, _, hcell⟩ := RdAt.some (RdAt.own h) h0
    have hil : (intsN l).length = l.length := by simp [intsN]
    refine (Tryz.slices_Contains_int b o l.length c (intsN l) x w (by omega) (by omega) (fun j hj => ?_)).mono ?_
    · refine hcell j _ ?_
      rw [freeC_ints, List.getElem?_map, List.getD_eq_getElem?_getD, List.getElem?_eq_getElem hj]; rfl
    · rintro e w' ⟨rfl, rfl⟩
      refine ⟨_, rfl, ?_, rfl⟩
      rw [← hil, List.take_length]
      simp only [List.contains_eq_mem, decide_eq_true_eq, intsN, List.mem_map]
      exact ⟨fun ⟨a, h1, h2⟩ => by rw [← Int.ofNat.inj h2]; exact h1, fun h => ⟨x, h, rfl⟩⟩
set_option maxHeartbeats 3200000 in
set_option maxRecDepth 100000 in
theorem pfits_is (w : World) (a : Nat) (s : ByteArray) (sts : List St) (st en : Nat) (t : ByteArray) (hp : PatAt w a s sts st en) (hw : SWf sts) (hN : tot sts ≤ 100000) (hs : st < sts.length) (ht : t.size ≤ maxLen) :
    Calls Tryz.prog 135 #[.pointer (some ⟨a, 0, none⟩), .string t] w fun e w' => ∃ b, e = .returned (.bool b) ∧ (b = true ↔ Rn sts st (bytesN t) en) ∧ Below w.heap.size w w' := by
  have hNl : sts.length ≤ 100000 := Nat.le_trans (len_tot _) hN
  unfold maxLen at ht
  obtain ⟨sa, sn, sc, c1, _, c2, c3, halt, _⟩ := hp.cells
  have hr1 : ∀ W (v : Value) (l : List Nat), Below w.heap.size w W → RdAt W v l.length 1 (freeC l) → (∀ j ∈ l, j < sts.length) → l.length ≤ 1000000 → Calls Tryz.prog 158 #[.pointer (some ⟨a, 0, none⟩), v] W fun e w' => ∃ v' out, e = .returned v' ∧ w'.ownsRow W.heap.size 3 1 v' out.length (freeC out) ∧ Below W.heap.size W w' ∧ RisingN out ∧ ∀ k, k ∈ out ↔ Cl sts l k :=
    fun W v l hb hv hl hll => reach_is W a s sts st en l v (hp.below hb) hw hN hv hl hll
  have hr2 : ∀ W (v : Value) (l : List Nat) (c : Nat), c < 256 → Below w.heap.size w W → RdAt W v l.length 1 (freeC l) → (∀ j ∈ l, j < sts.length) → l.length ≤ 1000000 → Calls Tryz.prog 159 #[.pointer (some ⟨a, 0, none⟩), v, .int .u8 c] W fun e w' => ∃ v' out, e = .returned v' ∧ w'.ownsRow W.heap.size 3 1 v' out.length (freeC out) ∧ Below W.heap.size W w' ∧ RisingN out ∧ ∀ k, k ∈ out ↔ Cl sts (goN sts c l) k :=
    fun W v l c hc hb hv hl hll => step_is W a s sts st en l v c hc (hp.below hb) hw hN hv hl hll
  have H1 := Lib.hid hr1
  have H2 := Lib.hid hr2
  have HW := Lib.hid hw
  have hba := alloc_below w (.cells #[.int .i64 st] 3)
  have x0 := heap_alloc_new w (.cells #[.int .i64 st] 3)
  have hv0 : RdAt (w.alloc (.cells #[.int .i64 st] 3)) (.slice (some ⟨w.heap.size, 0, none⟩) 1 1) [st].length 1 (freeC [st]) :=
    RdAt.mk (by simp [freeC]) (Nat.le_refl _) (by rw [World.size_alloc]; omega) (fun j x hj => by
      obtain ⟨h1, h2⟩ := List.getElem?_eq_some_iff.1 hj
      have h0 : j = 0 := by simp [freeC] at h1; omega
      subst h0
      rw [cell_of_row _ _ _ _ _ _ x0]
      simp [freeC] at h2
      simp [h2])
  have hk1 := hr1 _ _ [st] hba hv0 (fun j hj => by rw [List.mem_singleton.1 hj]; exact hs) (by simp)
  have HK1 := Lib.hid hk1
  have hcv := fun W => Lib.run_convert_string_bytes (P := Tryz.prog) W 9 220 5 t Tryz.underlying9 Tryz.underlying220 Tryz.underlying5
  clear hp hw hr1 hr2 hv0 x0 hk1
  go_enter Tryz.func135, Tryz.ntmps135
  go_wp2_with fail
  refine HK1.out.mono ?_
  rintro e w1 ⟨v1, out1, rfl, ho1, hb1, hri1, hm1⟩
  rw [World.size_alloc] at ho1
  have hB1 : Below w.heap.size w w1 := hba.trans (hb1.mono (by rw [World.size_alloc]; omega))
  have hO1 := own_base ho1 (show w.heap.size ≤ w.heap.size + 1 by omega)
  have hcell : ∀ j (h : j < t.size), (Lib.bytesWorld w1 5 t).cell? ⟨w1.heap.size, j, none⟩ = some (.int .u8 ((bytesN t)[j]'(by rw [bytesN_len]; exact h) : Nat)) := by
    intro j h
    rw [Lib.bytesWorld_cell w1 5 t j h]
    simp only [List.getD, List.getElem?_eq_getElem (l := t.data.toList) (i := j) (by simpa using h)]
    simp [bytesN, B]
  have HC := Lib.hid hcell
  have hbw : Below w1.heap.size w1 (Lib.bytesWorld w1 5 t) := ⟨rfl, rfl, rfl, by rw [Lib.bytesWorld_size]; omega, fun k hk => Lib.bytesWorld_at_old w1 5 t k hk⟩
  have hB2 : Below w.heap.size w (Lib.bytesWorld w1 5 t) := hB1.trans (hbw.mono hB1.size)
  have hO2 := ownsRow_below hO1 hbw
  have hws : w1.heap.size < (Lib.bytesWorld w1 5 t).heap.size := by rw [Lib.bytesWorld_size]; omega
  have HM1 : Hid (∀ k, k ∈ out1 ↔ Rn sts st [] k) := Lib.hid (fun k => by rw [hm1 k, Rn_nil])
  have hcw := hcv w1
  clear hcell hcv hm1 ho1 HK1 hba hb1 hO1
  go_upto_region 5 with fail
  generalize Lib.bytesWorld w1 5 t = w2 at *
  generalize grownCap w1 t.size 0 5 = gc at *
  generalize hbe : w1.heap.size = be at *
  clear hcw hbw
  have HO2 := Lib.hid hO2
  have HR1 := Lib.hid hri1
  have HB2 := Lib.hid hB2
  clear hO2 hri1 hB2
  go_loopw [5, 20] (fun vl vi wr => ∃ (j : Nat) (out : List Nat), j ≤ t.size ∧ vi = .int .i64 j ∧ Hid (wr.ownsRow w.heap.size 3 1 vl out.length (freeC out)) ∧ Hid (RisingN out) ∧ Hid (Below w.heap.size w wr) ∧ Hid (∀ k, k ∈ out ↔ Rn sts st ((bytesN t).take j) k) ∧ (j < t.size → wr.cell? ⟨be, j, none⟩ = some (.int .u8 ((bytesN t).getD j 0 : Nat))) ∧ Hid (∀ j (h : j < t.size), wr.cell? ⟨be, j, none⟩ = some (.int .u8 ((bytesN t)[j]'(by rw [bytesN_len]; exact h) : Nat))) ∧ be < wr.heap.size) (fun _ vi _ => t.size - (intOf vi).toNat)
  case atStart => exact ⟨0, out1, Nat.zero_le _, rfl, HO2, HR1, HB2, HM1, fun h => by rw [HC.out 0 h, List.getD_eq_getElem?_getD, List.getElem?_eq_getElem (by rw [bytesN_len]; exact h)]; rfl, HC, hws⟩
  case round =>
    obtain ⟨j, out, hj, rfl, HO, HR, HB, HM, hcj, HCJ, hbe2⟩ := hrel
    have hlt : ∀ k ∈ out, k < sts.length := fun k hk => Rn_lt HW.out hs ((HM.out k).1 hk)
    have hle : out.length ≤ 1000000 := Nat.le_trans (rising_len HR.out hlt) (by omega)
    by_cases hjt : j < t.size
    · replace hcj := hcj hjt
      obtain ⟨c, hce⟩ : ∃ c, (bytesN t).getD j 0 = c := ⟨_, rfl⟩
      have hjl : j < (bytesN t).length := by rw [bytesN_len]; exact hjt
      have hc : c < 256 := by
        rw [← hce, List.getD_eq_getElem?_getD, List.getElem?_eq_getElem hjl]
        exact bytesN_lt (List.getElem_mem hjl)
      have HT : Hid ((bytesN t).take (j + 1) = (bytesN t).take j ++ [c]) := Lib.hid (by
        rw [List.take_succ_eq_append_getElem hjl, ← hce, List.getD_eq_getElem?_getD, List.getElem?_eq_getElem hjl]; rfl)
      rw [hce] at hcj
      have hk := H2.out wr u5 out c hc HB.out (RdAt.own HO.out) hlt hle
      clear hlt
      go_wp2_with fail
      refine hk.mono ?_
      rintro e w3 ⟨v3, out3, rfl, h1, h2, h3, h4⟩
      have H4 : Hid (Below wr.heap.size wr w3) := Lib.hid h2
      have H5 : Hid (w3.ownsRow wr.heap.size 3 1 v3 out3.length (freeC out3)) := Lib.hid h1
      have H6 := Lib.hid h4
      have q1 : Hid (w3.ownsRow w.heap.size 3 1 v3 out3.length (freeC out3)) := Lib.hid (own_base H5.out HB.out.size)
      have q2 : Hid (RisingN out3) := Lib.hid h3
      have q3 : Hid (Below w.heap.size w w3) := Lib.hid (HB.out.trans (H4.out.mono HB.out.size))
      have q4 : Hid (∀ k, k ∈ out3 ↔ Rn sts st ((bytesN t).take (j + 1)) k) := Lib.hid (fun k => by rw [H6.out k, HT.out, Rn_snoc HM.out])
      have q6 : Hid (∀ j (h : j < t.size), w3.cell? ⟨be, j, none⟩ = some (.int .u8 ((bytesN t)[j]'(by rw [bytesN_len]; exact h) : Nat))) := Lib.hid (fun i hi => (H4.out.cell (p := ⟨be, i, none⟩) hbe2).trans (HCJ.out i hi))
      have q5 : Hid (j + 1 < t.size → w3.cell? ⟨be, j + 1, none⟩ = some (.int .u8 ((bytesN t).getD (j + 1) 0 : Nat))) := Lib.hid (fun h => by
        rw [q6.out (j + 1) h, List.getD_eq_getElem?_getD, List.getElem?_eq_getElem (by rw [bytesN_len]; exact h)]; rfl)
      have q7 : be < w3.heap.size := Nat.lt_of_lt_of_le hbe2 H4.out.size
      clear hk h1 h2 h4 h3 H4 H5 H6 HO HR HB HM HCJ hbe2 hcj HT
      go_wp2
      go_roundw
      case rel => exact ⟨j + 1, out3, by omega, by go_num, q1, q2, q3, q4, q5.out, q6, q7⟩
      case measure => (simp [intOf]; try omega)
    · obtain rfl : j = t.size := by omega
      have hk := contains_row wr _ out u5 en HO.out hle
      have d3 := keep_cell c3 HB.out halt
      have hall : (bytesN t).take t.size = bytesN t := by rw [← bytesN_len, List.take_length]
      rw [hall] at HM
      clear hcj
      go_wp2_with fail
      refine hk.mono ?_
      rintro e w3 ⟨b, rfl, h1, hww⟩
      obtain rfl := hww.symm
      clear hk
      go_wp2
      go_ret
      exact ⟨b, rfl, h1.trans (HM.out en), HB.out⟩
theorem pfits_nil (w : World) (t : ByteArray) : Calls Tryz.prog 135 #[.pointer none, .string t] w fun e w' => e = .returned (.bool false) ∧ w' = w := by
  go_enter Tryz.func135, Tryz.ntmps135
  go_wp2
  go_ret
  exact ⟨rfl, rfl⟩
/-- which texts fit -/
def FitsP (p t : ByteArray) : Prop := errM p = 0 ∧ Rn (endR p).sts (runR p).2.1 (bytesN t) (runR p).2.2
theorem runR_len (p : ByteArray) (h : p.size ≤ 100) : tot (endR p).sts ≤ 100000 := by
  have h1 := (runR_ok p).gd.tot
  have h2 := (runR_ok p).top
  rw [endR_sts]
  simp only [costM, bs0, tot, List.map_nil, List.sum_nil] at h1
  unfold tot
  omega
theorem errM_size {p : ByteArray} (h : errM p = 0) : p.size ≤ 100 := by
  unfold errM at h
  split at h
  · cases h
  · omega
theorem runR_swf (p : ByteArray) : SWf (endR p).sts := by
  rw [endR_sts]
  exact runM_wf p _ .either 0 bs0 (by omega) (by simp [bs0]) (fun h => by cases h) trivial (by simp [fuelM, bs0]) (fun x hx => by simp [bs0] at hx)
theorem runR_st (p : ByteArray) : (runR p).2.1 < (endR p).sts.length := by rw [endR_sts]; exact (runR_ok p).p1
set_option maxHeartbeats 1600000 in
theorem tfits_is (p t : ByteArray) (w : World) (ht : t.size ≤ maxLen) : Calls Tryz.prog 118 #[.string p, .string t] w fun e w' => ∃ b, e = .returned (.bool b) ∧ (b = true ↔ FitsP p t) ∧ Below w.heap.size w w' := by
  have hr := read_is p w
  have hf : ∀ W a, errM p = 0 → PatAt W a p (endR p).sts (runR p).2.1 (runR p).2.2 → Calls Tryz.prog 135 #[.pointer (some ⟨a, 0, none⟩), .string t] W fun e w' => ∃ b, e = .returned (.bool b) ∧ (b = true ↔ Rn (endR p).sts (runR p).2.1 (bytesN t) (runR p).2.2) ∧ Below W.heap.size W w' :=
    fun W a he h => pfits_is W a p _ _ _ t h (runR_swf p) (runR_len p (errM_size he)) (runR_st p) ht
  have HF := Lib.hid hf
  clear hf
  go_enter Tryz.func118, Tryz.ntmps118
  go_wp2_with fail
  refine hr.mono ?_
  rintro e w1 ⟨hb, ⟨hne, rfl⟩ | ⟨he, a, rfl, hp, _⟩⟩
  · have hk := pfits_nil w1 t
    go_wp2_with fail
    refine hk.mono ?_
    rintro e w3 ⟨rfl, hww⟩
    obtain rfl := hww.symm
    clear hk
    go_wp2
    go_ret
    exact ⟨false, rfl, ⟨(fun h => by cases h), fun h => absurd h.1 hne⟩, hb⟩
  · have hk := HF.out w1 a he hp
    go_wp2_with fail
    refine hk.mono ?_
    rintro e w3 ⟨b, rfl, h1, h2⟩
    clear hk
    go_wp2
    go_ret
    exact ⟨b, rfl, h1.trans ⟨fun h => ⟨he, h⟩, fun h => h.2⟩, hb.trans (h2.mono hb.size)⟩
end Go.Proofs.YtcfococinllcmaaGreat
