/- SilenceTimes: the card: whatever the arguments, the law returns true and its arguments read as they did. No condition. -/
import Derived.Test.YtcfococinllcmaaGreatTopSilenceTimesCardP1
import Derived.Deep.OwnRows
import Derived.Great.Ranges
import Derived.Test.YtcfococinllcmaaGreatMtAll
import Derived.Test.YtcfococinllcmaaGreatFrame12

/- The reference's row: a contract (with atom's for less fuel). -/
namespace Go.Proofs.YtcfococinllcmaaGreat
open Go.RowKit

theorem rtimes_no {s : ByteArray} {b : Bs} {x : Nat × Nat} {a : Re} (h : ∀ c, peekM s b = some c → postB c = false) : timesM s b x = (b, x) ∧ timesR s b a = a := by
  unfold timesM timesR
  cases hc : peekM s b with
  | none => exact ⟨rfl, rfl⟩
  | some c =>
    have h1 := h c hc
    have h2 := h1
    simp only [postB, Bool.or_eq_false_iff, decide_eq_false_iff_not] at h2
    dsimp only
    rw [if_neg (by rw [h1]; decide), if_neg h2.1.1, if_neg h2.1.2, if_neg h2.2]
    exact ⟨rfl, rfl⟩
theorem rtimes_yes {s : ByteArray} {b : Bs} {x : Nat × Nat} {c : Nat} (h : peekM s b = some c) (hp : postB c = true) : (timesM s b x).1.pos = b.pos + 1 ∧ (timesM s b x).1.err = b.err := by
  unfold timesM
  rw [h]
  dsimp only
  rw [if_pos hp]
  dsimp only
  constructor <;> (split <;> split <;> rfl)
theorem timesR_at {s : ByteArray} {b : Bs} {c : Nat} {a : Re} (h : peekM s b = some c) : timesR s b a = if c = 42 then .star a else if c = 43 then .plus a else if c = 63 then .opt a else a := by unfold timesR; rw [h]
/-- how far a reader is from its end: nothing, behind an error -/
def rmeas (w : World) (g N : Nat) : Nat := match w.cell? ⟨g, 2, none⟩ with
  | some (.int _ e) => if e = 0 then N - rposAt w g else 0
  | _ => 0
theorem RdrAt.meas {w : World} {g : Nat} {s : ByteArray} {b : Bs} (h : RdrAt w g s b) (N : Nat) : rmeas w g N = if b.err = 0 then N - b.pos else 0 := by
  unfold rmeas
  rw [h.c2, h.posAt]
/-- what row's loop carries -/
def PLoop (w0 : World) (g : Nat) (s : ByteArray) (d N : Nat) (r : Bs × (Nat × Nat)) (a : Re) (w : World) : Prop :=
  ∃ (m : Nat) (b : Bs) (p : Nat × Nat) (l : List (List Value)) (acc : Re) (kv : Value) (b' : Bs), m ≤ N ∧ b.pos ≤ s.size + 12 - d ∧ fuelM s b (.parts p) ≤ m ∧ l.length ≤ b.pos ∧
    b'.err = b.err ∧ (b.err = 0 → b'.pos = b.pos) ∧ b'.pos ≤ s.size + 12 - d ∧
    Hid (runM s m (.parts p) d b = r) ∧ Hid (reM s m (.parts p) acc d b = a) ∧ Hid (Clr w0 w g s b' (nodeC 2 noB kv)) ∧ Hid (Un w0 w kv 2 l acc (b.err = 0))
/-- the part behind the atom -/
structure Prt (w0 w : World) (kv : Value) (ab : Nat) (cs : List Value) (a : Re) (ok : Prop) : Prop where
  nd : NdAt w ab cs
  one : ∀ y ∈ cs, y.oneCell' = true
  lo : w0.heap.size + 2 ≤ ab
  tree : ok → NA w (fun q => w0.heap.size + 2 ≤ q ∧ q < w.heap.size ∧ kv.ownBlock ≠ some q ∧ q ≠ ab) 0 [cs] a
theorem Prt.keep {w0 w w' : World} {kv : Value} {ab : Nat} {cs : List Value} {a : Re} {ok ok' : Prop} (h : Prt w0 w kv ab cs a ok) (hs : w.heap.size ≤ w'.heap.size) (hk : ∀ q, w0.heap.size + 2 ≤ q → q < w.heap.size → w'.heap[q]? = w.heap[q]?) (o : ok' → ok) : Prt w0 w' kv ab cs a ok' :=
  ⟨h.nd.keep hs (hk ab h.lo h.nd.lt), h.one, h.lo, fun x => ((h.tree (o x)).keep hs fun q hq hlt => hk q hq.1 hlt).mono fun _ hq => ⟨hq.1, Nat.lt_of_lt_of_le hq.2.1 hs, hq.2.2⟩⟩
theorem Prt.below {w0 w w' : World} {kv : Value} {ab : Nat} {cs : List Value} {a : Re} {ok : Prop} (h : Prt w0 w kv ab cs a ok) (hb : Below w.heap.size w w') : Prt w0 w' kv ab cs a ok := h.keep hb.size (fun q _ h2 => hb.block q h2) id
theorem Prt.kr {g : Nat} {w0 w w' : World} {kv : Value} {ab : Nat} {cs : List Value} {a : Re} {ok : Prop} (h : Prt w0 w kv ab cs a ok) (hk : Kr g w w') (hg : g < w0.heap.size) : Prt w0 w' kv ab cs a ok := h.keep hk.size (fun q h1 h2 => hk.block q h2 (by omega)) id
/-- the part becomes the one kid of a node -/
theorem Prt.wrap {w0 w : World} {kv : Value} {ab : Nat} {cs : List Value} {a c : Re} {ok : Prop} (h : Prt w0 w kv ab cs a ok) (k : Int) (t : TypeId) (hown : ∀ q, kv.ownBlock = some q → q < w.heap.size)
    (hf : ∀ (W : World) (P : Nat → Prop) (r : Value), NA W P 0 [cs] a → KidsAt W P r [cs] → NA W P 0 [nodeC k noB r] c) :
    Prt w0 ((w.alloc (.cells cs.toArray t)).setCells ab 0 (nodeC k noB (.slice (some ⟨w.heap.size, 0, none⟩) 1 1))) kv ab (nodeC k noB (.slice (some ⟨w.heap.size, 0, none⟩) 1 1)) c ok := by
  have hb := alloc_below w (.cells cs.toArray t)
  have hs := World.size_alloc w (.cells cs.toArray t)
  have hlt := h.nd.lt
  have hab := h.lo
  have hrd := rd_node (w := w) h.nd.len t
  refine ⟨(h.nd.later hb).stored (nodeC_len _ _ _), nodeC_one _ _ _ rfl, h.lo, fun x => hf _ _ _ ?_ ⟨?_, fun y hy => by rw [List.mem_singleton.1 hy]; exact h.nd.len, ?_, by simp⟩⟩
  · refine (((h.tree x).later hb).keep (w' := (w.alloc (.cells cs.toArray t)).setCells ab 0 (nodeC k noB (.slice (some ⟨w.heap.size, 0, none⟩) 1 1))) (by rw [size_setCells]; exact Nat.le_refl _) (fun q hq _ => heap_setCells _ _ _ hq.2.2.2 _ _)).mono (fun q hq => ⟨hq.1, by rw [size_setCells]; have := hq.2.1; omega, hq.2.2⟩)
  · have e : ([cs] : List (List Value)).flatten = cs := by simp
    rw [e]
    exact rd_keepB hrd (by rw [size_setCells]; exact Nat.le_refl _) (fun q hq _ => heap_setCells _ _ _ (by cases hq; show w.heap.size ≠ ab; omega) _ _)
  · intro q hq
    cases hq
    show w0.heap.size + 2 ≤ w.heap.size ∧ w.heap.size < _ ∧ _ ∧ w.heap.size ≠ ab
    refine ⟨by omega, by rw [size_setCells]; omega, fun e => ?_, by omega⟩
    have h1 : w.heap.size < w.heap.size := hown _ e
    omega
/-- what is kept behind the making of the part's block -/
structure Kq (w0 w3 w : World) (ab : Nat) : Prop where
  eq : w3.heap.size = ab
  le : ab ≤ w.heap.size
  kp : ∀ q, w0.heap.size + 2 ≤ q → q < ab → w.heap[q]? = w3.heap[q]?
theorem Kq.below {w0 w3 w w' : World} {ab : Nat} (h : Kq w0 w3 w ab) (hb : Below w.heap.size w w') : Kq w0 w3 w' ab := ⟨h.eq, Nat.le_trans h.le hb.size, fun q h1 h2 => (hb.block q (by have := h.le; omega)).trans (h.kp q h1 h2)⟩
theorem Kq.kr {g : Nat} {w0 w3 w w' : World} {ab : Nat} (h : Kq w0 w3 w ab) (hk : Kr g w w') (hg : g < w0.heap.size) : Kq w0 w3 w' ab := ⟨h.eq, Nat.le_trans h.le hk.size, fun q h1 h2 => (hk.block q (by have := h.le; omega) (by omega)).trans (h.kp q h1 h2)⟩
theorem Kq.puts {w0 w3 w : World} {ab : Nat} (h : Kq w0 w3 w ab) (vs : List Value) : Kq w0 w3 (w.setCells ab 0 vs) ab := ⟨h.eq, by rw [size_setCells]; exact h.le, fun q h1 h2 => (heap_setCells _ _ _ (by omega) _ _).trans (h.kp q h1 h2)⟩
theorem Kq.un {w0 w3 w : World} {ab : Nat} {kv : Value} {md : Nat} {l : List (List Value)} {a : Re} {ok : Prop} (h : Kq w0 w3 w ab) (hu : Un w0 w3 kv md l a ok) : Un w0 w kv md l a ok := hu.keep (by rw [h.eq]; exact h.le) (fun q h1 h2 => h.kp q h1 (by rw [← h.eq]; exact h2))
theorem rtimes_pos (s : ByteArray) (b : Bs) (x : Nat × Nat) (N : Nat) (h1 : b.pos ≤ N) (h2 : s.size ≤ N) : (timesM s b x).1.pos ≤ N := by
  unfold timesM
  split
  · exact h1
  · rename_i c hc
    have := (peekM_some hc).2.1
    split
    · have e : ∀ b f t, (freeM b f t).pos = b.pos := fun _ _ _ => rfl
      dsimp only
      split <;> split <;> simp only [e, nodeM, stepM] <;> omega
    · exact h1
set_option maxHeartbeats 12800000 in
set_option maxRecDepth 100000 in
theorem row_is (n : Nat) (hatom : NdK 155 .atom n) : NdK 129 .row (n + 1) := by
  intro m hm w g s d b h he hd hp _ hs hf
  simp only [fuelM] at hf
  obtain ⟨m, rfl⟩ : ∃ m', m = m' + 2 := ⟨m - 2, by omega⟩
  obtain ⟨r, hr⟩ : ∃ r, runM s (m + 1) (.parts (b.sts.length, b.sts.length)) d (nodeM b) = r := ⟨_, rfl⟩
  obtain ⟨a, ha⟩ : ∃ a, reM s (m + 1) (.parts (b.sts.length, b.sts.length)) .eps d (nodeM b) = a := ⟨_, rfl⟩
  have e1 : runM s (m + 2) .row d b = r := by rw [runM]; exact hr
  have e2 : reM s (m + 2) .row .no d b = a := by rw [reM]; exact ha
  rw [e1, e2]
  have HR0 := Lib.hid hr
  have HA0 := Lib.hid ha
  obtain ⟨b0, hb0⟩ : ∃ b0, nodeM b = b0 := ⟨_, rfl⟩
  have hbp : b0.pos = b.pos := by rw [← hb0]; rfl
  have hbe : b0.err = 0 := by rw [← hb0]; exact he
  have h0 : RdrAt w g s b0 := h.congr hbp.symm (by rw [hbe]; exact he)
  rw [hb0] at HR0 HA0
  have hc := Clr.new h0 2 148
  have HC0 := Lib.hid hc
  have HATOM := Lib.hid hatom
  obtain ⟨i0, hi, hz0, hz1, hz2⟩ := info_parts info_node
  clear hatom hr ha e1 e2 hb0 hc h h0
  go_enter Tryz.func129, Tryz.ntmps129
  go_wp2_with (first
    | (with_reducible refine wpList_allocN rfl rfl _ rfl w.heap.size rfl ?_)
    | (with_reducible refine wpList_allocN rfl rfl _ rfl (w.heap.size + 1) (World.size_alloc _ _) ?_)
    | ((with_reducible refine wpList_buildN rfl _ rfl _ rfl (zeroN 2) ?hf ?_); (case hf => exact node_built2))
    | ((with_reducible refine wpList_storeN rfl _ _ rfl _ rfl (w.heap.size + 1) 0 (nodeC 2 noB nilS) ?hx ?hy ?ht (nodeC_len _ _ _) (oneN _ _) ?_); (case hx => rfl); (case hy => rfl); (case ht => exact (by have := there_new (w.alloc (.cells (zeroN 0) 148)) 0 148; rwa [World.size_alloc] at this))))
  refine wp_forget2 (fun W => Clr w W g s b0 (nodeC 2 noB nilS)) HC0.out (fun w1 hw1 => ?_)
  have H1 := Lib.hid hw1
  clear hw1 HC0
  simp only [Act.put, List.setIfInBounds_toArray, List.set_cons_zero, List.set_cons_succ]
  go_loopw [] (fun wr => PLoop w g s d (m + 1) r a wr) (fun wr => rmeas wr g (s.size + 15))
  case atStart => exact ⟨m + 1, b0, _, [], .eps, nilS, b0, Nat.le_refl _, by omega, by simp only [fuelM]; omega, by simp, rfl, fun _ => rfl, by omega, HR0, HA0, H1, Lib.hid (Un.nil w w1 (fun P => .r0) _)⟩
  case round =>
    clear H1 HR0 HA0 hbp hbe b0
    obtain ⟨k, b, p, l, acc, kv, bx, hk, hp, hf, hl, hx1, hx2, hx3, HR, HA, HC, HU⟩ := hrel
    simp only [fuelM] at hf
    obtain ⟨k, rfl⟩ : ∃ k', k = k' + 1 := ⟨k - 1, by omega⟩
    have HR' := HR.out
    have HA' := HA.out
    rw [runM] at HR'
    rw [reM] at HA'
    have hpk := peek_congr (s := s) (b := bx) (c := b) hx1 (fun h0 => hx2 (hx1.symm.trans h0))
    obtain ⟨o, ho⟩ : ∃ o, peekM s bx = o := ⟨_, rfl⟩
    have k1 := next_is wr g s bx o ho HC.out.rdr (by omega)
    have HPK := Lib.hid (hpk.symm.trans ho)
    have HO := Lib.hid ho
    rw [HPK.out] at HR' HA'
    have HR1 := Lib.hid HR'
    have HA1 := Lib.hid HA'
    have HX := Lib.hid (And.intro hx1 hx2)
    clear hpk ho HR' HA' HR HA hx1 hx2
    go_wp2_with fail
    refine k1.mono ?_
    rintro e w2 ⟨rfl, hb2⟩
    have HC2 := Lib.hid (HC.out.below hb2)
    have HU2 := Lib.hid (HU.out.below hb2)
    have HMS : Hid (rmeas wr g (s.size + 15) = if bx.err = 0 then s.size + 15 - bx.pos else 0) := Lib.hid (HC.out.rdr.meas _)
    clear k1 hb2 HC HU
    have HEND : Hid ((b, p) = r → acc = a → ∃ cs' b'', Value.agg (nodeC 2 noB kv).toArray = .agg cs'.toArray ∧ Back w (w2.setCells w.heap.size 0 (nodeC 2 noB kv)) g s d r a cs' b'') := Lib.hid (fun h1 h2 => by
      subst h1 h2
      have hu := HU2.out.puts w.heap.size 0 (nodeC 2 noB kv) (by omega)
      exact ⟨_, bx, rfl, nodeC_len _ _ _, nodeC_one _ _ _ (ownsRow_one hu.own), (HC2.out.done _).1, HX.out.1, hx3, fun h0 => ⟨HX.out.2 (HX.out.1.symm.trans h0), .row (hu.all (HX.out.1.symm.trans h0)) (hu.kids (by omega))⟩, (HC2.out.done _).2⟩)
    have HONE : Hid (∀ y ∈ nodeC 2 noB kv, y.oneCell' = true) := Lib.hid (nodeC_one _ _ _ (ownsRow_one HU2.out.own))
    rcases o with _ | c
    · go_wp2_with (first
      | ((with_reducible refine wpList_loadN rfl _ rfl _ rfl (w.heap.size + 1) 0 ?hx (nodeC 2 noB kv) ?hc (nodeC_len _ _ _) ?_); (case hx => rfl); (case hc => exact HC2.out.nd.at_))
      | ((with_reducible refine wpList_storeN rfl _ _ rfl _ rfl w.heap.size 0 (nodeC 2 noB kv) ?hx ?hy ?ht (nodeC_len _ _ _) HONE.out ?_); (case hx => rfl); (case hy => rfl); (case ht => exact HC2.out.res)))
      refine bodyPost_ret (results_agg1 rfl _ _ w.heap.size (nodeC 2 noB kv) (.struct _) rfl (World.rangeAt_setCells_same _ _ _ _ (by rw [nodeC_len]; exact HC2.out.res)) Tryz.underlying148 rfl (by rw [nodeC_len]; exact node_size)) rfl ?_
      obtain ⟨cs', b'', e1, e2⟩ := HEND.out HR1.out HA1.out
      exact ⟨cs', b'', by rw [e1], e2⟩
    · by_cases hc : c = 124 ∨ c = 41
      · have HR2 : Hid ((b, p) = r) := Lib.hid (by have := HR1.out; dsimp only at this; rwa [if_pos hc] at this)
        have HA2 : Hid (acc = a) := Lib.hid (by have := HA1.out; dsimp only at this; rwa [if_pos hc] at this)
        clear HR1 HA1
        rcases hc with rfl | rfl
        · go_wp2_with (first
      | ((with_reducible refine wpList_loadN rfl _ rfl _ rfl (w.heap.size + 1) 0 ?hx (nodeC 2 noB kv) ?hc (nodeC_len _ _ _) ?_); (case hx => rfl); (case hc => exact HC2.out.nd.at_))
      | ((with_reducible refine wpList_storeN rfl _ _ rfl _ rfl w.heap.size 0 (nodeC 2 noB kv) ?hx ?hy ?ht (nodeC_len _ _ _) HONE.out ?_); (case hx => rfl); (case hy => rfl); (case ht => exact HC2.out.res)))
          refine bodyPost_ret (results_agg1 rfl _ _ w.heap.size (nodeC 2 noB kv) (.struct _) rfl (World.rangeAt_setCells_same _ _ _ _ (by rw [nodeC_len]; exact HC2.out.res)) Tryz.underlying148 rfl (by rw [nodeC_len]; exact node_size)) rfl ?_
          obtain ⟨cs', b'', e1, e2⟩ := HEND.out HR2.out HA2.out
          exact ⟨cs', b'', by rw [e1], e2⟩
        · go_wp2_with (first
      | ((with_reducible refine wpList_loadN rfl _ rfl _ rfl (w.heap.size + 1) 0 ?hx (nodeC 2 noB kv) ?hc (nodeC_len _ _ _) ?_); (case hx => rfl); (case hc => exact HC2.out.nd.at_))
      | ((with_reducible refine wpList_storeN rfl _ _ rfl _ rfl w.heap.size 0 (nodeC 2 noB kv) ?hx ?hy ?ht (nodeC_len _ _ _) HONE.out ?_); (case hx => rfl); (case hy => rfl); (case ht => exact HC2.out.res)))
          refine bodyPost_ret (results_agg1 rfl _ _ w.heap.size (nodeC 2 noB kv) (.struct _) rfl (World.rangeAt_setCells_same _ _ _ _ (by rw [nodeC_len]; exact HC2.out.res)) Tryz.underlying148 rfl (by rw [nodeC_len]; exact node_size)) rfl ?_
          obtain ⟨cs', b'', e1, e2⟩ := HEND.out HR2.out HA2.out
          exact ⟨cs', b'', by rw [e1], e2⟩
      · have hc1 : ((c : Int) == 124) = false := by rw [beq_eq_false_iff_ne]; omega
        have hc2 : ((c : Int) == 41) = false := by rw [beq_eq_false_iff_ne]; omega
        have hn1 : ¬ c = 124 := fun h => hc (.inl h)
        have hn2 : ¬ c = 41 := fun h => hc (.inr h)
        have hn3 : ¬ (c : Int) = 124 := by omega
        have hn4 : ¬ (c : Int) = 41 := by omega
        obtain ⟨hb0, hbs, hbc⟩ := peekM_some HPK.out
        have HBC := Lib.hid hbc
        clear hbc
        have hbx0 : bx.err = 0 := HX.out.1.trans hb0
        have hbxp : bx.pos = b.pos := HX.out.2 hb0
        have ok := runM_ok s k .atom d b hd hp (fun _ => hbs) trivial (by simp only [fuelM]; omega)
        obtain ⟨g1, q1, q2, q3, q4⟩ := ok
        obtain ⟨q5, _⟩ := q4 rfl
        have HR' := HR1.out
        have HA' := HA1.out
        (try dsimp only at HR' HA')
        rw [if_neg hc] at HR' HA'
        have hka := fun W (h : RdrAt W g s bx) => HATOM.out k (by omega) W g s d b (h.congr hbxp (hbx0.trans hb0.symm)) hb0 hd hp (fun _ => ⟨hbs, by rw [← HBC.out]; omega, by rw [← HBC.out]; omega⟩) hs (by simp only [fuelM]; omega)
        obtain ⟨rr, hrr⟩ : ∃ rr, runM s k .atom d b = rr := ⟨_, rfl⟩
        obtain ⟨ra, hra⟩ : ∃ ra, reM s k .atom .no d b = ra := ⟨_, rfl⟩
        rw [hrr] at HR' HA' hka q3 q5 q1 q2
        rw [hra] at HA' hka
        have hgtp := (gd_times s rr.1 rr.2).pos
        have hgtq := rtimes_pos s rr.1 rr.2 (s.size + 12 - d) q3 (by omega)
        have HTY := Lib.hid (fun c (h : peekM s rr.1 = some c) (hp : postB c = true) => rtimes_yes (x := rr.2) h hp)
        have HTN := Lib.hid (fun (h : ∀ c, peekM s rr.1 = some c → postB c = false) => rtimes_no (x := rr.2) (a := ra) h)
        obtain ⟨t, ht⟩ : ∃ t, timesM s rr.1 rr.2 = t := ⟨_, rfl⟩
        obtain ⟨ta, hta⟩ : ∃ ta, timesR s rr.1 ra = ta := ⟨_, rfl⟩
        rw [ht] at HR' HA' hgtp hgtq HTY HTN
        rw [hta] at HA' HTN
        have HTA := Lib.hid hta
        have HR2 := Lib.hid HR'
        have HA2 := Lib.hid HA'
        have hk1 := hka w2 HC2.out.rdr
        clear HR' HA' HR1 HA1 hrr hra ht hta g1 hka HEND HONE hc q1 q2 q4
        go_wp2_with fail
        refine hk1.mono ?_
        rintro e w3 ⟨cs, b1, rfl, hbk⟩
        have HC3 := Lib.hid (HC2.out.stp hbk.rdr hbk.kr)
        have HU3 := Lib.hid (HU2.out.kr hbk.kr HC2.out.gl)
        have HBK := Lib.hid hbk
        have hw3 := HC3.out.nd.lt
        clear hk1 hbk
        have hn3 := NdAt.new w3 0 148
        have hprt : Prt w ((w3.alloc (.cells (zeroN 0) 148)).setCells w3.heap.size 0 cs) kv w3.heap.size cs ra (b1.err = 0) := by
          refine ⟨hn3.stored HBK.out.len, HBK.out.one, by omega, fun h0 => (((HBK.out.tree h0).2).later (alloc_below w3 (.cells (zeroN 0) 148))).keep (by rw [size_setCells]; exact Nat.le_refl _) (fun q hq _ => heap_setCells _ _ _ (by omega) _ _) |>.mono ?_⟩
          rintro q ⟨h1, h2⟩
          have hlt := HC2.out.nd.lt
          refine ⟨by omega, by rw [size_setCells, World.size_alloc]; omega, fun e => ?_, by omega⟩
          have := (ownsRow_at HU2.out.own q e).2
          omega
        have hc4 : Clr w ((w3.alloc (.cells (zeroN 0) 148)).setCells w3.heap.size 0 cs) g s b1 (nodeC 2 noB kv) := by
          have h1 := HC3.out.below (alloc_below w3 (.cells (zeroN 0) 148))
          have hgl := h1.gl
          exact ⟨h1.rdr.kept (by rw [size_setCells]; exact Nat.le_refl _) (heap_setCells _ _ _ (by omega) _ _), h1.nd.keep (by rw [size_setCells]; exact Nat.le_refl _) (heap_setCells _ _ _ (by omega) _ _), there_kept h1.res (heap_setCells _ _ _ (by omega) _ _), h1.kr.news _ (by omega) _ _, h1.gl⟩
        have hu4 : Kq w w3 ((w3.alloc (.cells (zeroN 0) 148)).setCells w3.heap.size 0 cs) w3.heap.size := (show Kq w w3 (w3.alloc (.cells (zeroN 0) 148)) w3.heap.size from ⟨rfl, (alloc_below w3 (.cells (zeroN 0) 148)).size, fun q _ h2 => (alloc_below w3 (.cells (zeroN 0) 148)).block q h2⟩).puts cs
        have HU3 := Lib.hid (HU3.out.ok (ok' := True) (fun _ => hb0))
        have HPR := Lib.hid hprt
        have HC4 := Lib.hid hc4
        have HU4 := Lib.hid hu4
        have HTH : Hid ((w3.alloc (.cells (zeroN 0) 148)).there w3.heap.size 0 258) := Lib.hid hn3.th
        clear hprt hc4 hu4 hn3 HC3 HC2 HU2
        go_upto_region 6 with (first
          | (with_reducible refine wpList_allocN rfl rfl _ rfl w3.heap.size rfl ?_)
          | ((with_reducible refine wpList_storeN rfl _ _ rfl _ rfl w3.heap.size 0 cs ?hx ?hy ?ht HBK.out.len HBK.out.one ?_); (case hx => rfl); (case hy => rfl); (case ht => exact HTH.out)))
        generalize ((w3.alloc (.cells (zeroN 0) 148)).setCells w3.heap.size 0 cs) = w4 at *
        generalize w3.heap.size = ab at *
        have hbp1 := HBK.out.pos
        have HBE : Hid (b1.err = rr.1.err ∧ (b1.err = 0 → b1.pos = rr.1.pos)) := Lib.hid ⟨HBK.out.err, fun h0 => (HBK.out.tree h0).1⟩
        have hcl := HBK.out.len
        clear HBK HTH
        obtain ⟨o2, ho2⟩ : ∃ o2, peekM s b1 = o2 := ⟨_, rfl⟩
        have k2 := next_is w4 g s b1 o2 ho2 HC4.out.rdr (by omega)
        have HPK2 := Lib.hid ((peek_congr (s := s) (b := b1) (c := rr.1) HBE.out.1 HBE.out.2).symm.trans ho2)
        have HO2 := Lib.hid ho2
        clear ho2
        go_wp2_with fail
        refine k2.mono ?_
        rintro e w5 ⟨rfl, hb5⟩
        have HC5 := Lib.hid (HC4.out.below hb5)
        have HU5 := Lib.hid (HU4.out.below hb5)
        have HP5 : Hid (Prt w w5 kv ab cs ra (b1.err = 0)) := Lib.hid (HPR.out.below hb5)
        clear k2 hb5 HC4 HU4 HPR
        obtain ⟨PB, hPB⟩ : ∃ PB, (match o2 with | none => false | some c => postB c) = PB := ⟨_, rfl⟩
        have HPB := Lib.hid hPB
        clear hPB
        go_upto_region 7 with fail
        go_cut [47] from 11 to 68 (fun v wx => v = .bool PB ∧ wx = w5)
        case first =>
          rcases o2 with _ | c2
          · simp only [Option.getD_none, Option.isSome_none]
            go_wp2
            go_meet
            exact ⟨by rw [← HPB.out], rfl⟩
          · simp only [Option.getD_some, Option.isSome_some]
            by_cases g1 : c2 = 42
            · subst g1
              go_wp2
              go_meet
              exact ⟨by rw [← HPB.out]; rfl, rfl⟩
            · have g1b : ((c2 : Int) == 42) = false := by rw [beq_eq_false_iff_ne]; omega
              by_cases g2 : c2 = 43
              · subst g2
                go_wp2
                go_meet
                exact ⟨by rw [← HPB.out]; rfl, rfl⟩
              · have g2b : ((c2 : Int) == 43) = false := by rw [beq_eq_false_iff_ne]; omega
                by_cases g3 : c2 = 63
                · subst g3
                  go_wp2
                  go_meet
                  exact ⟨by rw [← HPB.out]; rfl, rfl⟩
                · have g3b : ((c2 : Int) == 63) = false := by rw [beq_eq_false_iff_ne]; omega
                  go_wp2
                  go_meet
                  exact ⟨by rw [← HPB.out]; simp [postB, g1, g2, g3], rfl⟩
        case rest =>
        obtain ⟨rfl, rfl⟩ := hcut
        go_upto_if 47 with fail
        go_cut [] from 11 to 68 (fun wx => ∃ (cs2 : List Value) (b3 : Bs), b3.err = t.1.err ∧ (b3.err = 0 → b3.pos = t.1.pos) ∧ b3.pos ≤ s.size + 12 - d ∧ cs2.length = 258 ∧ Hid (Clr w wx g s b3 (nodeC 2 noB kv)) ∧ Hid (Kq w w3 wx ab) ∧ Hid (Prt w wx kv ab cs2 ta (b3.err = 0)))
        case first =>
          cases PB with
          | false =>
            have hno : ∀ c, peekM s rr.1 = some c → postB c = false := fun c h => by
              rw [HPK2.out] at h
              subst h
              exact HPB.out
            obtain ⟨e1, e2⟩ := HTN.out hno
            go_wp2
            go_meet
            refine ⟨cs, b1, ?_, ?_, hbp1, hcl, HC5, HU5, ?_⟩
            · rw [e1]; exact HBE.out.1
            · rw [e1]; exact HBE.out.2
            · rw [e2]; exact HP5
          | true =>
            rcases o2 with _ | c2
            · exact absurd HPB.out (by simp)
            · have hPB := HPB.out
              dsimp only at hPB
              obtain ⟨e1, e2⟩ := HTY.out c2 HPK2.out hPB
              obtain ⟨hb10, hb1s, -⟩ := peekM_some HO2.out
              have HB1P := Lib.hid (HBE.out.2 hb10)
              have c1 := HC5.out.rdr.c1
              have f1 := there_free HC5.out.rdr.th 1 (by omega)
              have HTA2 : Hid (ta = if c2 = 42 then .star ra else if c2 = 43 then .plus ra else if c2 = 63 then .opt ra else ra) := Lib.hid (HTA.out.symm.trans (timesR_at HPK2.out))
              have hp3 : c2 = 42 ∨ c2 = 43 ∨ c2 = 63 := by simp only [postB, Bool.or_eq_true, decide_eq_true_eq] at hPB; omega
              have HE1 : Hid ((stepM b1).err = t.1.err ∧ (stepM b1).pos = t.1.pos) := Lib.hid ⟨by rw [e2]; exact HBE.out.1, by rw [e1]; simp only [stepM]; rw [HB1P.out]⟩
              clear hPB e1 e2
              go_upto_region 9 with fail
              refine wp_forget2 (fun W => Clr w W g s (stepM b1) (nodeC 2 noB kv) ∧ Kq w w3 W ab ∧ Prt w W kv ab cs ra (b1.err = 0)) ⟨HC5.out.step, HU5.out.kr (Kr.set g _ 1 _) HC5.out.gl, HP5.out.kr (Kr.set g _ 1 _) HC5.out.gl⟩ (fun w6 hw6 => ?_)
              have HC6 := Lib.hid hw6.1
              have HU6 := Lib.hid hw6.2.1
              have HP6 := Lib.hid hw6.2.2
              clear hw6 c1 f1 HC5 HU5 HP5 HTY HTN
              have HTH : Hid ((w6.alloc (.cells cs.toArray 148)).there ab 0 258) := Lib.hid (HP6.out.nd.later (alloc_below w6 (.cells cs.toArray 148))).th
              have hab := HP6.out.lo
              rcases hp3 with rfl | rfl | rfl
              · have HTA3 : Hid (ta = Re.star ra) := Lib.hid (HTA2.out.trans rfl)
                go_upto_region 14 with fail
                go_wp2_with (first
                  | ((with_reducible refine wpList_loadN rfl _ rfl _ rfl ab 0 ?hx cs ?hc hcl ?_); (case hx => rfl); (case hc => exact HP6.out.nd.at_))
                  | ((with_reducible refine wpList_buildSlice rfl 146 148 1 _ rfl cs.toArray i0 (.agg (zeroN 0)) Tryz.underlying146 hi hz0 ?hs ?hp ?hf ?_); (case hs => rw [hz1]; decide); (case hp => rw [hz1]; decide); (case hf => rw [hz1]; exact fill_one _ _ cs hcl rfl))
                  | ((with_reducible refine wpList_buildN rfl _ rfl _ rfl (nodeC 3 noB (.slice (some ⟨w6.heap.size, 0, none⟩) 1 1)).toArray ?hf ?_); (case hf => exact built_kids _ _ _ _ _ _ _ rfl rfl))
                  | ((with_reducible refine wpList_storeN rfl _ _ rfl _ rfl ab 0 (nodeC 3 noB (.slice (some ⟨w6.heap.size, 0, none⟩) 1 1)) ?hx ?hy ?ht (nodeC_len _ _ _) (nodeC_one _ _ _ rfl) ?_); (case hx => rfl); (case hy => rfl); (case ht => exact HTH.out)))
                go_meet
                refine ⟨nodeC 3 noB (.slice (some ⟨w6.heap.size, 0, none⟩) 1 1), stepM b1, HE1.out.1, fun _ => HE1.out.2, by rw [HE1.out.2]; exact hgtq, nodeC_len _ _ _, ?_, ?_, ?_⟩
                · exact Lib.hid (by
                    have h1 := HC6.out.below (alloc_below w6 (.cells cs.toArray 148))
                    have hgl := h1.gl
                    exact ⟨h1.rdr.kept (by rw [size_setCells]; exact Nat.le_refl _) (heap_setCells _ _ _ (by omega) _ _), h1.nd.keep (by rw [size_setCells]; exact Nat.le_refl _) (heap_setCells _ _ _ (by omega) _ _), there_kept h1.res (heap_setCells _ _ _ (by omega) _ _), h1.kr.news _ (by omega) _ _, h1.gl⟩)
                · exact Lib.hid ((HU6.out.below (alloc_below w6 (.cells cs.toArray 148))).puts _)
                · rw [HTA3.out]
                  exact Lib.hid ((HP6.out.wrap 3 148 (fun q hq => by have h1 := (ownsRow_at HU3.out.own q hq).2; have h2 := HU6.out.eq; have h3 := HU6.out.le; omega) (fun W P r h1 h2 => .star h1 h2)).keep (Nat.le_refl _) (fun _ _ _ => rfl) (fun h0 => h0))
              · have HTA3 : Hid (ta = Re.plus ra) := Lib.hid (HTA2.out.trans rfl)
                go_upto_region 14 with fail
                go_wp2_with (first
                  | ((with_reducible refine wpList_loadN rfl _ rfl _ rfl ab 0 ?hx cs ?hc hcl ?_); (case hx => rfl); (case hc => exact HP6.out.nd.at_))
                  | ((with_reducible refine wpList_buildSlice rfl 146 148 1 _ rfl cs.toArray i0 (.agg (zeroN 0)) Tryz.underlying146 hi hz0 ?hs ?hp ?hf ?_); (case hs => rw [hz1]; decide); (case hp => rw [hz1]; decide); (case hf => rw [hz1]; exact fill_one _ _ cs hcl rfl))
                  | ((with_reducible refine wpList_buildN rfl _ rfl _ rfl (nodeC 4 noB (.slice (some ⟨w6.heap.size, 0, none⟩) 1 1)).toArray ?hf ?_); (case hf => exact built_kids _ _ _ _ _ _ _ rfl rfl))
                  | ((with_reducible refine wpList_storeN rfl _ _ rfl _ rfl ab 0 (nodeC 4 noB (.slice (some ⟨w6.heap.size, 0, none⟩) 1 1)) ?hx ?hy ?ht (nodeC_len _ _ _) (nodeC_one _ _ _ rfl) ?_); (case hx => rfl); (case hy => rfl); (case ht => exact HTH.out)))
                go_meet
                refine ⟨nodeC 4 noB (.slice (some ⟨w6.heap.size, 0, none⟩) 1 1), stepM b1, HE1.out.1, fun _ => HE1.out.2, by rw [HE1.out.2]; exact hgtq, nodeC_len _ _ _, ?_, ?_, ?_⟩
                · exact Lib.hid (by
                    have h1 := HC6.out.below (alloc_below w6 (.cells cs.toArray 148))
                    have hgl := h1.gl
                    exact ⟨h1.rdr.kept (by rw [size_setCells]; exact Nat.le_refl _) (heap_setCells _ _ _ (by omega) _ _), h1.nd.keep (by rw [size_setCells]; exact Nat.le_refl _) (heap_setCells _ _ _ (by omega) _ _), there_kept h1.res (heap_setCells _ _ _ (by omega) _ _), h1.kr.news _ (by omega) _ _, h1.gl⟩)
                · exact Lib.hid ((HU6.out.below (alloc_below w6 (.cells cs.toArray 148))).puts _)
                · rw [HTA3.out]
                  exact Lib.hid ((HP6.out.wrap 4 148 (fun q hq => by have h1 := (ownsRow_at HU3.out.own q hq).2; have h2 := HU6.out.eq; have h3 := HU6.out.le; omega) (fun W P r h1 h2 => .plus h1 h2)).keep (Nat.le_refl _) (fun _ _ _ => rfl) (fun h0 => h0))
              · have HTA3 : Hid (ta = Re.opt ra) := Lib.hid (HTA2.out.trans rfl)
                go_upto_region 14 with fail
                go_wp2_with (first
                  | ((with_reducible refine wpList_loadN rfl _ rfl _ rfl ab 0 ?hx cs ?hc hcl ?_); (case hx => rfl); (case hc => exact HP6.out.nd.at_))
                  | ((with_reducible refine wpList_buildSlice rfl 146 148 1 _ rfl cs.toArray i0 (.agg (zeroN 0)) Tryz.underlying146 hi hz0 ?hs ?hp ?hf ?_); (case hs => rw [hz1]; decide); (case hp => rw [hz1]; decide); (case hf => rw [hz1]; exact fill_one _ _ cs hcl rfl))
                  | ((with_reducible refine wpList_buildN rfl _ rfl _ rfl (nodeC 5 noB (.slice (some ⟨w6.heap.size, 0, none⟩) 1 1)).toArray ?hf ?_); (case hf => exact built_kids _ _ _ _ _ _ _ rfl rfl))
                  | ((with_reducible refine wpList_storeN rfl _ _ rfl _ rfl ab 0 (nodeC 5 noB (.slice (some ⟨w6.heap.size, 0, none⟩) 1 1)) ?hx ?hy ?ht (nodeC_len _ _ _) (nodeC_one _ _ _ rfl) ?_); (case hx => rfl); (case hy => rfl); (case ht => exact HTH.out)))
                go_meet
                refine ⟨nodeC 5 noB (.slice (some ⟨w6.heap.size, 0, none⟩) 1 1), stepM b1, HE1.out.1, fun _ => HE1.out.2, by rw [HE1.out.2]; exact hgtq, nodeC_len _ _ _, ?_, ?_, ?_⟩
                · exact Lib.hid (by
                    have h1 := HC6.out.below (alloc_below w6 (.cells cs.toArray 148))
                    have hgl := h1.gl
                    exact ⟨h1.rdr.kept (by rw [size_setCells]; exact Nat.le_refl _) (heap_setCells _ _ _ (by omega) _ _), h1.nd.keep (by rw [size_setCells]; exact Nat.le_refl _) (heap_setCells _ _ _ (by omega) _ _), there_kept h1.res (heap_setCells _ _ _ (by omega) _ _), h1.kr.news _ (by omega) _ _, h1.gl⟩)
                · exact Lib.hid ((HU6.out.below (alloc_below w6 (.cells cs.toArray 148))).puts _)
                · rw [HTA3.out]
                  exact Lib.hid ((HP6.out.wrap 5 148 (fun q hq => by have h1 := (ownsRow_at HU3.out.own q hq).2; have h2 := HU6.out.eq; have h3 := HU6.out.le; omega) (fun W P r h1 h2 => .opt h1 h2)).keep (Nat.le_refl _) (fun _ _ _ => rfl) (fun h0 => h0))
        case rest =>
          obtain ⟨cs2, b3, h1, h2, h3, hcl2, HC6, HQ6, HP6⟩ := hcut
          have HU6 := Lib.hid (HQ6.out.un HU3.out)
          clear HQ6
          have c257 := HC6.out.nd.cell (nodeC_kids 2 noB kv)
          have HB7 := Lib.hid (alloc_below wc (.cells cs2.toArray 148))
          have HC7 := Lib.hid (HC6.out.below HB7.out)
          have HU7 := Lib.hid (HU6.out.below HB7.out)
          have HP7 := Lib.hid (HP6.out.below HB7.out)
          have HRD := Lib.hid (rd_node (w := wc) hcl2 148)
          have HBS : Hid (w.heap.size + 2 ≤ (wc.alloc (.cells cs2.toArray 148)).heap.size) := Lib.hid (by have := HC7.out.nd.lt; omega)
          have hl200 : l.length ≤ 200 := by omega
          clear HC5 HU5 HP5
          go_wp2_with (first
            | ((with_reducible refine wpList_loadN rfl _ rfl _ rfl ab 0 ?hx cs2 ?hc hcl2 ?_); (case hx => rfl); (case hc => exact HP6.out.nd.at_))
            | ((with_reducible refine wpList_buildSlice rfl 146 148 1 _ rfl cs2.toArray i0 (.agg (zeroN 0)) Tryz.underlying146 hi hz0 ?hs ?hp ?hf ?_); (case hs => rw [hz1]; decide); (case hp => rw [hz1]; decide); (case hf => rw [hz1]; exact fill_one _ _ cs2 hcl2 rfl))
            | (at_builtin; (refine wpList_append_rd2 rfl (.tmp 64) (.tmp 66) 146 rfl (w.heap.size + 2) 148 i0 (.agg (zeroN 0)) 258 288 Tryz.underlying146 hi hz0 hz1 hz2 (zeroN_size 0) (by decide) kv l.length l.flatten rfl HU7.out.own _ 1 cs2 rfl HRD.out HP6.out.one (by unfold maxLen; omega) (by omega) HBS.out ?_); intro kv' w8 hown hgrow hor; obtain ⟨ka, kc, rfl, -, -⟩ := RdAt.shape (RdAt.own hown); have hc8 := HC7.out.grown hgrow (fun q hq => (ownsRow_at HU7.out.own q hq).1); have c8 := hc8.nd.cell (nodeC_kids 2 noB kv); have f8 := hc8.nd.free (j := 257) (by omega); have HC8 := Lib.hid hc8; have HU8 := Lib.hid (HU7.out.app (ok' := t.1.err = 0) (b := ta) hown hgrow hor ⟨hcl2, HP6.out.one⟩ (fun _ => trivial) (fun h0 => (HP7.out.tree (h1.trans h0)).mono (fun q hq => ⟨hq.1, hq.2.1, hq.2.2.1⟩)) (fun W P h1 h2 => .r1 h1 h2)); clear hc8 hown hgrow hor))
          have HC9 : Hid (Clr w (w8.setCell ⟨w.heap.size + 1, 257, none⟩ (.slice ka (l.length + 1) kc)) g s b3 (nodeC 2 noB (.slice ka (l.length + 1) kc))) := Lib.hid (by
            have := HC8.out.put 257 (.slice ka (l.length + 1) kc) (by omega)
            rwa [nodeC_setK] at this)
          (try simp only [Act.put, List.setIfInBounds_toArray, List.set_cons_zero, List.set_cons_succ])
          go_roundw
          case rel => exact ⟨k, freeM t.1 p.2 t.2.1, (p.1, t.2.2), l ++ [cs2], .cat acc ta, (.slice ka (l.length + 1) kc), b3, by omega, hgtq, by simp only [fuelM, freeM]; omega, by rw [List.length_append]; simp only [freeM, List.length_singleton]; omega, h1, fun h0 => h2 (h1.trans h0), h3, HR2, HA2, HC9, Lib.hid (HU8.out.put _ _ _ (by omega))⟩
          case measure =>
            rw [HC9.out.rdr.meas, HMS.out, if_pos hbx0]
            split
            · rename_i h0; have := h2 h0; omega
            · omega
end Go.Proofs.YtcfococinllcmaaGreat

/- The reference's atom: a contract (with either's for less fuel). -/
namespace Go.Proofs.YtcfococinllcmaaGreat
open Go.RowKit

/-- what atom carries: the reader, its result's block, its own node's block -/
structure Ca (w0 w : World) (nb g : Nat) (s : ByteArray) (b : Bs) (cs : List Value) : Prop where
  rdr : RdrAt w g s b
  nd : NdAt w nb cs
  res : w.there w0.heap.size 0 258
  kr : Kr g w0 w
  gl : g < w0.heap.size
  nb : w0.heap.size < nb
theorem Ca.below {w0 w w' : World} {nb g : Nat} {s : ByteArray} {b : Bs} {cs : List Value} (h : Ca w0 w nb g s b cs) (hb : Below w.heap.size w w') : Ca w0 w' nb g s b cs :=
  ⟨h.rdr.below hb, h.nd.later hb, there_later h.res hb (by have := h.nd.lt; have := h.nb; omega), h.kr.trans (Kr.of_below hb), h.gl, h.nb⟩
theorem Ca.stp {w0 w w' : World} {nb g : Nat} {s : ByteArray} {b b' : Bs} {cs : List Value} (h : Ca w0 w nb g s b cs) (hr : RdrAt w' g s b') (hk : Kr g w w') : Ca w0 w' nb g s b' cs :=
  ⟨hr, h.nd.kr hk (by have := h.gl; have := h.nb; omega), there_kept h.res (hk.block _ (by have := h.nd.lt; have := h.nb; omega) (by have := h.gl; omega)), h.kr.trans hk, h.gl, h.nb⟩
theorem Ca.step {w0 w : World} {nb g : Nat} {s : ByteArray} {b : Bs} {cs : List Value} (h : Ca w0 w nb g s b cs) : Ca w0 (w.setCell ⟨g, 1, none⟩ (.int .i64 ((b.pos : Int) + 1))) nb g s (stepM b) cs :=
  h.stp h.rdr.step (Kr.set g w 1 _)
theorem Ca.put {w0 w : World} {nb g : Nat} {s : ByteArray} {b : Bs} {cs : List Value} (h : Ca w0 w nb g s b cs) (j : Nat) (v : Value) (hj : j < 258) : Ca w0 (w.setCell ⟨nb, j, none⟩ v) nb g s b (cs.set j v) :=
  ⟨h.rdr.kept (by simp) (Below.heap_setCell w _ v g (by show g ≠ nb; have := h.gl; have := h.nb; omega)), h.nd.set j v hj, rthere_set h.res _ _ _, h.kr.new _ _ _ (by have := h.nb; omega), h.gl, h.nb⟩
theorem Ca.all {w0 w : World} {nb g : Nat} {s : ByteArray} {b : Bs} {cs : List Value} (h : Ca w0 w nb g s b cs) (cs' : List Value) (hl : cs'.length = 258) : Ca w0 (w.setCells nb 0 cs') nb g s b cs' :=
  ⟨h.rdr.kept (by rw [size_setCells]; exact Nat.le_refl _) (heap_setCells _ _ _ (by have := h.gl; have := h.nb; omega) _ _), h.nd.stored hl, World.there_setCells h.res _ _ _, h.kr.news _ (by have := h.nb; omega) _ _, h.gl, h.nb⟩
theorem Ca.done {w0 w : World} {nb g : Nat} {s : ByteArray} {b : Bs} {cs : List Value} (h : Ca w0 w nb g s b cs) (vs : List Value) : RdrAt (w.setCells w0.heap.size 0 vs) g s b ∧ Kr g w0 (w.setCells w0.heap.size 0 vs) :=
  ⟨h.rdr.kept (by rw [size_setCells]; exact Nat.le_refl _) (heap_setCells _ _ _ (by have := h.gl; omega) _ _), h.kr.news _ (Nat.le_refl _) _ _⟩
/-- a node is made -/
theorem Ca.new {w0 w : World} {g : Nat} {s : ByteArray} {b : Bs} (h : RdrAt w g s b) (hr : w.there w0.heap.size 0 258) (hk : Kr g w0 w) (hg : g < w0.heap.size) (hl : w0.heap.size < w.heap.size) (t : TypeId) : Ca w0 ((w.alloc (.cells (zeroN 0) t)).setCells w.heap.size 0 (nodeC 0 noB nilS)) w.heap.size g s b (nodeC 0 noB nilS) := by
  have hb := alloc_below w (.cells (zeroN 0) t)
  refine ⟨(h.below hb).kept (by rw [size_setCells]; exact Nat.le_refl _) (heap_setCells _ _ _ (by omega) _ _), (NdAt.new w 0 t).stored (nodeC_len _ _ _), there_kept (there_later hr hb hl) (heap_setCells _ _ _ (by omega) _ _), (hk.trans (Kr.of_below hb)).news _ (by omega) _ _, hg, hl⟩
theorem oneS_eq (c : Nat) : (fun x => if x = c then true else noB x) = oneS c := by
  funext x
  unfold oneS addS noS noB
  by_cases h : x = c
  · subst h; rw [if_pos rfl, decide_eq_true (Nat.le_refl x)]; rfl
  · rw [if_neg h]
    by_cases h2 : c ≤ x
    · rw [decide_eq_true h2, decide_eq_false (show ¬ x ≤ c by omega)]; rfl
    · rw [decide_eq_false h2]; rfl
theorem dot_all (kv : Value) : nodeC 0 (addU noB 0 256) kv = nodeC 0 (turnS noS) kv := nodeC_congr (fun c hc => by unfold addU turnS noB noS; rw [decide_eq_true (Nat.zero_le c), decide_eq_true hc]; rfl) kv
theorem err_one (b : Bs) (S : Nat → Bool) : (oneM b S).1.err = b.err ∧ (oneM b S).1.pos = b.pos := ⟨rfl, rfl⟩
theorem Back.mk1 {w w' : World} {g d : Nat} {s : ByteArray} {b b' : Bs} {S T : Nat → Bool} (hr : RdrAt w' g s b') (he : b'.err = b.err) (hp : b'.pos ≤ s.size + 12 - d) (ht : b'.err = 0 → b'.pos = b.pos ∧ nodeC 0 S nilS = nodeC 0 T nilS) (hk : Kr g w w') : Back w w' g s d (oneM b T) (.set T) (nodeC 0 S nilS) b' :=
  ⟨nodeC_len _ _ _, oneN _ _, hr, he, hp, fun h0 => ⟨(ht h0).1, by rw [(ht h0).2]; exact .set T nilS⟩, hk⟩
set_option maxHeartbeats 12800000 in
set_option maxRecDepth 100000 in
theorem atom_is (n : Nat) (heither : NdK 107 .either n) : NdK 155 .atom (n + 1) := by
  intro m hm w g s d b h he hd hp hat hs hf
  simp only [fuelM] at hf
  obtain ⟨m, rfl⟩ : ∃ m', m = m' + 1 := ⟨m - 1, by omega⟩
  obtain ⟨hps, hn124, hn41⟩ := hat rfl
  obtain ⟨r, hr⟩ : ∃ r, runM s (m + 1) .atom d b = r := ⟨_, rfl⟩
  obtain ⟨a, ha⟩ : ∃ a, reM s (m + 1) .atom .no d b = a := ⟨_, rfl⟩
  rw [hr, ha]
  rw [runM] at hr
  rw [reM] at ha
  (try dsimp only at hr ha)
  have hpk : peekM s b = some (byteM s b.pos) := rpeek_of he hps
  have hcl := byteM_lt s b.pos
  obtain ⟨c, hc⟩ : ∃ c, byteM s b.pos = c := ⟨_, rfl⟩
  rw [hc] at hr ha hpk hn124 hn41 hcl
  have HR := Lib.hid hr
  have HA := Lib.hid ha
  have HE := Lib.hid heither
  have hb1 : b.pos + 1 ≤ (stepM b).pos := Nat.le_refl _
  have hb1q : (stepM b).pos ≤ s.size := hps
  have hb1e : (stepM b).err = 0 := he
  have hgl := h.lt
  have hbx := alloc_below w (.cells (zeroN 0) 148)
  have hrx := h.below hbx
  have hth := there_new w 0 148
  have hsx : (w.alloc (.cells (zeroN 0) 148)).heap.size = w.heap.size + 1 := World.size_alloc _ _
  have kf := fun W b (h : RdrAt W g s b) => rfail_is W g s b 2 h
  have kf3 := fun W b (h : RdrAt W g s b) => rfail_is W g s b 3 h
  have KF := Lib.hid kf
  have KF3 := Lib.hid kf3
  have k1 := next_is (w.alloc (.cells (zeroN 0) 148)) g s b _ hpk hrx (by omega)
  have HB0 := Lib.hid hrx
  have HT0 := Lib.hid hth
  have HK0 := Lib.hid (Kr.of_below (g := g) hbx)
  clear hr ha heither hc h hat hpk hbx hrx hth kf kf3
  go_enter Tryz.func155, Tryz.ntmps155
  go_upto_region 1 with (with_reducible refine wpList_allocN rfl rfl _ rfl w.heap.size rfl ?_)
  go_wp2_with fail
  refine k1.mono ?_
  rintro e w1 ⟨rfl, hb⟩
  have c1 := (HB0.out.below hb).c1
  have f1 := there_free (HB0.out.below hb).th 1 (by omega)
  have h2 := (HB0.out.below hb).step
  have h2t := rthere_set (there_later HT0.out hb (by omega)) g 1 (.int .i64 ((b.pos : Int) + 1))
  have h2k := (HK0.out.trans (Kr.of_below (g := g) hb)).trans (Kr.set g w1 1 (.int .i64 ((b.pos : Int) + 1)))
  have h2s : w.heap.size < (w1.setCell ⟨g, 1, none⟩ (.int .i64 ((b.pos : Int) + 1))).heap.size := by rw [World.size_setCell]; have := hb.size; omega
  clear k1 hb HB0 HT0 HK0 hsx
  go_upto_region 3 with fail
  change Code.wp _ _ _ _ (w1.setCell ⟨g, 1, none⟩ (.int .i64 ((b.pos : Int) + 1)))
  clear c1 f1
  obtain ⟨b1, hb1x⟩ : ∃ b1, stepM b = b1 := ⟨_, rfl⟩
  rw [hb1x] at h2 hb1 hb1q hb1e HR HA
  generalize (w1.setCell ⟨g, 1, none⟩ (.int .i64 ((b.pos : Int) + 1))) = w2 at *
  have hca := Ca.new h2 h2t h2k hgl h2s 148
  have HTH : Hid ((w2.alloc (.cells (zeroN 0) 148)).there w2.heap.size 0 258) := Lib.hid (there_new w2 0 148)
  have HC := Lib.hid hca
  clear hca h2 h2t h2k hb1x
  go_upto_region 4 with (first
    | (with_reducible refine wpList_allocN rfl rfl _ rfl w2.heap.size rfl ?_)
    | ((with_reducible refine wpList_buildN rfl _ rfl _ rfl (zeroN 0) ?hf ?_); (case hf => exact node_built0))
    | ((with_reducible refine wpList_storeN rfl _ _ rfl _ rfl w2.heap.size 0 (nodeC 0 noB nilS) ?hx ?hy ?ht (nodeC_len _ _ _) (oneN _ _) ?_); (case hx => rfl); (case hy => rfl); (case ht => exact HTH.out)))
  clear HTH
  generalize w2.heap.size = nb at *
  refine wp_forget2 (fun W => Ca w W nb g s b1 (nodeC 0 noB nilS)) HC.out (fun w3 hw3 => ?_)
  clear HC
  have HC := Lib.hid hw3
  clear hw3
  by_cases e40 : c = 40
  · subst e40
    have hr := HR.out
    have ha := HA.out
    rw [if_pos rfl] at hr ha
    by_cases ed : d = 8
    · subst ed
      rw [if_pos rfl] at hr ha
      subst hr ha
      have kq := KF3.out _ _ HC.out.rdr
      go_wp2_with fail
      refine kq.mono ?_
      rintro e w4 ⟨rfl, hB, hs4⟩
      have H4 := Lib.hid (HC.out.stp hB hs4)
      clear kq hB hs4
      go_wp2_with (first
      | ((with_reducible refine wpList_loadN rfl _ rfl _ rfl nb 0 ?hx (nodeC 0 (noB) nilS) ?hc (nodeC_len _ _ _) ?_); (case hx => rfl); (case hc => exact H4.out.nd.at_))
      | ((with_reducible refine wpList_storeN rfl _ _ rfl _ rfl w.heap.size 0 (nodeC 0 (noB) nilS) ?hx ?hy ?ht (nodeC_len _ _ _) (oneN _ _) ?_); (case hx => rfl); (case hy => rfl); (case ht => exact H4.out.res)))
      refine bodyPost_ret (results_agg1 rfl _ _ w.heap.size (nodeC 0 (noB) nilS) (.struct _) rfl (World.rangeAt_setCells_same _ _ _ _ (by rw [show (nodeC 0 (noB) nilS).length = 258 from nodeC_len _ _ _]; exact H4.out.res)) Tryz.underlying148 rfl (by rw [show (nodeC 0 (noB) nilS).length = 258 from nodeC_len _ _ _]; exact node_size)) rfl ?_

      exact ⟨_, _, rfl, Back.mk1 (H4.out.done _).1 rfl (by rw [failM_pos]; omega) (fun h0 => absurd h0 (failM_err (by decide))) (H4.out.done _).2⟩
    · rw [if_neg ed] at hr ha
      have hd8 : (d : Int) < 8 := by omega
      have hwd : IntKind.i64.wrap ((d : Int) + 1) = (((d + 1 : Nat)) : Int) := by rw [IntWalk.i64_in _ ⟨by omega, by omega⟩]; rfl
      have hke := HE.out m (by omega) w3 g s (d + 1) b1 HC.out.rdr hb1e (by omega) (by omega) (fun h => by cases h) hs (by simp only [fuelM]; omega)
      obtain ⟨rr, hrr⟩ : ∃ rr, runM s m .either (d + 1) b1 = rr := ⟨_, rfl⟩
      rw [hrr] at hr hke
      rw [ha] at hke
      clear hrr
      go_wp2_with fail
      refine hke.mono ?_
      rintro e w4 ⟨cs, b', rfl, hbk⟩
      have H4 := Lib.hid (HC.out.stp hbk.rdr hbk.kr)
      have HBK := Lib.hid hbk
      have hnb3 := HC.out.nd.lt
      have hnbw := HC.out.nb
      have hcl2 := hbk.len
      clear hke hbk
      go_upto_region 10 with ((with_reducible refine wpList_storeN rfl _ _ rfl _ rfl nb 0 cs ?hx ?hy ?ht HBK.out.len HBK.out.one ?_); (case hx => rfl); (case hy => rfl); (case ht => exact H4.out.nd.th))
      have hc5 := H4.out.all cs HBK.out.len
      have ht5 : b'.err = 0 → NA (w4.setCells nb 0 cs) (fun q => w3.heap.size ≤ q ∧ q < w4.heap.size) 0 [cs] a := fun h0 => ((HBK.out.tree h0).2).keep (by rw [size_setCells]; exact Nat.le_refl _) (fun q hq _ => heap_setCells _ _ _ (by omega) _ _)
      have hs5 : (w4.setCells nb 0 cs).heap.size = w4.heap.size := size_setCells _ _ _ _
      have HC5 := Lib.hid hc5
      have HT5 := Lib.hid ht5
      have HBE : Hid (b'.err = rr.1.err ∧ (b'.err = 0 → b'.pos = rr.1.pos) ∧ b'.pos ≤ s.size + 12 - (d + 1)) := Lib.hid ⟨HBK.out.err, fun h0 => (HBK.out.tree h0).1, HBK.out.pos⟩
      have HON := Lib.hid HBK.out.one
      have hbp := HBK.out.pos
      clear hc5 ht5 HBK H4 HC
      generalize (w4.setCells nb 0 cs) = w5 at *
      obtain ⟨o, ho⟩ : ∃ o, peekM s b' = o := ⟨_, rfl⟩
      have k2 := next_is w5 g s b' o ho HC5.out.rdr (by omega)
      have HPK := Lib.hid ((peek_congr (s := s) (b := b') (c := rr.1) HBE.out.1 HBE.out.2.1).symm.trans ho)
      have HO := Lib.hid ho
      clear ho
      go_wp2_with fail
      refine k2.mono ?_
      rintro e w6 ⟨rfl, hb6⟩
      have HC6 := Lib.hid (HC5.out.below hb6)
      have HT6 : Hid (b'.err = 0 → NA w6 (fun q => w.heap.size < q ∧ q < w6.heap.size ∧ q ≠ nb ∧ q ≠ g) 0 [cs] a) := Lib.hid (fun h0 => ((HT5.out h0).later hb6).mono (by
        rintro q ⟨h1, h2⟩
        have := hb6.size
        exact ⟨by omega, by omega, by omega, by omega⟩))
      clear k2 hb6 HC5 HT5
      have HRE : Hid (r.1 = closeM s rr.1) := Lib.hid (by rw [← hr])
      clear hr
      obtain ⟨B, hB⟩ : ∃ B, decide (o ≠ some 41) = B := ⟨_, rfl⟩
      go_upto_region 11 with fail
      go_cut [48] from 43 (fun v wx => v = .bool B ∧ wx = w6)
      case first =>
        rcases o with _ | c2
        · go_wp2
          go_meet
          exact ⟨by rw [← hB]; rfl, rfl⟩
        · by_cases g1 : c2 = 41
          · subst g1
            go_wp2
            go_meet
            exact ⟨by rw [← hB]; rfl, rfl⟩
          · have g1b : ((c2 : Int) != 41) = true := by simp; omega
            go_wp2
            go_meet
            exact ⟨by rw [← hB, decide_eq_true (by simpa using g1)], rfl⟩
      case rest =>
      obtain ⟨rfl, rfl⟩ := hcut
      go_upto_if 48 with fail
      go_cut [] from 43 (fun wx => ∃ bz : Bs, bz.err = (closeM s rr.1).err ∧ bz.pos + 1 ≤ s.size + 12 - d ∧ (bz.err = 0 → bz.pos = rr.1.pos) ∧ Hid (Ca w wx nb g s bz cs) ∧ Hid (bz.err = 0 → NA wx (fun q => w.heap.size < q ∧ q < wx.heap.size ∧ q ≠ nb ∧ q ≠ g) 0 [cs] a))
      case first =>
        cases B with
        | true =>
          have hne : ¬ peekM s rr.1 = some 41 := by rw [HPK.out]; exact of_decide_eq_true hB
          have kq := KF.out _ _ HC6.out.rdr
          clear hB
          go_wp2_with fail
          refine kq.mono ?_
          rintro e w7 ⟨rfl, hB7, hs7⟩
          have H7 := Lib.hid (HC6.out.stp hB7 hs7)
          clear kq hB7 hs7
          go_wp2
          go_meet
          refine ⟨failM b' 2, ?_, ?_, fun h0 => absurd h0 (failM_err (by decide)), H7, Lib.hid (fun h0 => absurd h0 (failM_err (by decide)))⟩
          · unfold closeM
            rw [if_neg hne]
            show _ = (failM rr.1 2).err
            unfold failM
            rw [HBE.out.1]
            split <;> first | rfl | exact HBE.out.1
          · rw [failM_pos]; have := HBE.out.2.2; omega
        | false =>
          have heq : peekM s rr.1 = some 41 := by rw [HPK.out]; have := of_decide_eq_false hB; simpa using this
          clear hB
          go_wp2
          go_meet
          refine ⟨b', ?_, by have := HBE.out.2.2; omega, HBE.out.2.1, HC6, HT6⟩
          unfold closeM
          rw [if_pos heq]
          exact HBE.out.1
      case rest =>
      obtain ⟨bz, hz1, hz2, hz3, HC7, HT7⟩ := hcut
      clear HC6 HT6 hB
      have c1 := HC7.out.rdr.c1
      have f1 := there_free HC7.out.rdr.th 1 (by omega)
      have hgs := HC7.out.rdr.lt
      go_upto_region 14 with fail
      refine wp_forget2 (fun W => Ca w W nb g s (stepM bz) cs ∧ (bz.err = 0 → NA W (fun q => w.heap.size < q ∧ q < W.heap.size ∧ q ≠ nb ∧ q ≠ g) 0 [cs] a)) ⟨HC7.out.step, fun h0 => ((HT7.out h0).keep (by simp) (fun q hq _ => Below.heap_setCell _ _ _ q hq.2.2.2)).mono (fun q hq => ⟨hq.1, by simpa using hq.2.1, hq.2.2⟩)⟩ (fun w8 hw8 => ?_)
      have HC8 := Lib.hid hw8.1
      have HT8 := Lib.hid hw8.2
      clear hw8 HC7 HT7 c1 f1
      go_wp2_with (first
      | ((with_reducible refine wpList_loadN rfl _ rfl _ rfl nb 0 ?hx cs ?hc hcl2 ?_); (case hx => rfl); (case hc => exact HC8.out.nd.at_))
      | ((with_reducible refine wpList_storeN rfl _ _ rfl _ rfl w.heap.size 0 cs ?hx ?hy ?ht hcl2 HON.out ?_); (case hx => rfl); (case hy => rfl); (case ht => exact HC8.out.res)))
      refine bodyPost_ret (results_agg1 rfl _ _ w.heap.size cs (.struct _) rfl (World.rangeAt_setCells_same _ _ _ _ (by rw [show cs.length = 258 from hcl2]; exact HC8.out.res)) Tryz.underlying148 rfl (by rw [show cs.length = 258 from hcl2]; exact node_size)) rfl ?_
      refine ⟨cs, stepM bz, rfl, hcl2, HON.out, (HC8.out.done _).1, ?_, ?_, fun h0 => ⟨?_, ((HT8.out h0).keep (by rw [size_setCells]; exact Nat.le_refl _) (fun q hq _ => heap_setCells _ _ _ (by omega) _ _)).mono (fun q hq => ⟨by omega, by rw [size_setCells]; exact hq.2.1⟩)⟩, (HC8.out.done _).2⟩
      · rw [HRE.out]; exact hz1
      · simp only [stepM]; omega
      · rw [HRE.out, closeM_pos]
        have := hz3 h0
        simp only [stepM]; omega
  · have hr := HR.out
    have ha := HA.out
    rw [if_neg e40] at hr ha
    have e40b : ((c : Int) == 40) = false := by rw [beq_eq_false_iff_ne]; omega
    clear HR HA HE KF3
    by_cases e91 : c = 91
    · subst e91
      rw [if_pos rfl] at hr ha
      subst hr ha
      have kc := rclass_is w3 g s b1 HC.out.rdr (by omega) (by omega)
      go_wp2_with fail
      refine kc.mono ?_
      rintro e w4 ⟨S', b', rfl, h1, h2, h3, h4, hk4⟩
      have H4 := Lib.hid (HC.out.stp h1 hk4)
      clear kc HC h1 hk4
      go_wp2_with (first
      | ((with_reducible refine wpList_loadN rfl _ rfl _ rfl nb 0 ?hx (nodeC 0 (S') nilS) ?hc (nodeC_len _ _ _) ?_); (case hx => rfl); (case hc => exact H4.out.nd.at_))
      | ((with_reducible refine wpList_storeN rfl _ _ rfl _ rfl w.heap.size 0 (nodeC 0 (S') nilS) ?hx ?hy ?ht (nodeC_len _ _ _) (oneN _ _) ?_); (case hx => rfl); (case hy => rfl); (case ht => exact H4.out.res)))
      refine bodyPost_ret (results_agg1 rfl _ _ w.heap.size (nodeC 0 (S') nilS) (.struct _) rfl (World.rangeAt_setCells_same _ _ _ _ (by rw [show (nodeC 0 (S') nilS).length = 258 from nodeC_len _ _ _]; exact H4.out.res)) Tryz.underlying148 rfl (by rw [show (nodeC 0 (S') nilS).length = 258 from nodeC_len _ _ _]; exact node_size)) rfl ?_

      exact ⟨_, b', rfl, Back.mk1 (H4.out.done _).1 h2 (by omega) h4 (H4.out.done _).2⟩
    rw [if_neg e91] at hr ha
    have e91b : ((c : Int) == 91) = false := by rw [beq_eq_false_iff_ne]; omega
    by_cases e46 : c = 46
    · subst e46
      rw [if_pos rfl] at hr ha
      subst hr ha
      go_wp2
      go_loopw [10] (fun v wr => ∃ k : Nat, v = .int .i64 (k : Nat) ∧ k ≤ 256 ∧ Hid (Ca w wr nb g s b1 (nodeC 0 (addU noB 0 k) nilS))) (fun v _ => 257 - (intOf v).toNat)
      case atStart => exact ⟨0, rfl, by omega, Lib.hid (by rw [addU_start]; exact HC.out)⟩
      case round =>
        clear HC
        obtain ⟨k, rfl, hk, HT⟩ := hrel
        by_cases hk2 : k < 256
        · have n1 := HT.out.nd.cell (nodeC_set 0 (addU noB 0 k) nilS k hk2)
          have f1 := HT.out.nd.free (j := 1 + k) (by omega)
          have hki0 : (0 : Int) ≤ (k : Int) := by omega
          have hki1 : (k : Int) < 256 := by omega
          go_wp2
          go_roundw
          case rel => exact ⟨k + 1, by go_num, by omega, Lib.hid (by
            have := HT.out.put (1 + k) (.bool true) (by omega)
            rw [nodeC_setB 0 _ _ k hk2, addU_succ (Nat.zero_le k)] at this
            exact this)⟩
          case measure => (simp [intOf]; try omega)
        · obtain rfl : k = 256 := by omega
          go_wp2_with (first
      | ((with_reducible refine wpList_loadN rfl _ rfl _ rfl nb 0 ?hx (nodeC 0 (addU noB 0 256) nilS) ?hc (nodeC_len _ _ _) ?_); (case hx => rfl); (case hc => exact HT.out.nd.at_))
      | ((with_reducible refine wpList_storeN rfl _ _ rfl _ rfl w.heap.size 0 (nodeC 0 (addU noB 0 256) nilS) ?hx ?hy ?ht (nodeC_len _ _ _) (oneN _ _) ?_); (case hx => rfl); (case hy => rfl); (case ht => exact HT.out.res)))
          refine bodyPost_ret (results_agg1 rfl _ _ w.heap.size (nodeC 0 (addU noB 0 256) nilS) (.struct _) rfl (World.rangeAt_setCells_same _ _ _ _ (by rw [show (nodeC 0 (addU noB 0 256) nilS).length = 258 from nodeC_len _ _ _]; exact HT.out.res)) Tryz.underlying148 rfl (by rw [show (nodeC 0 (addU noB 0 256) nilS).length = 258 from nodeC_len _ _ _]; exact node_size)) rfl ?_

          exact ⟨_, b1, rfl, Back.mk1 (HT.out.done _).1 rfl (by omega) (fun _ => ⟨rfl, dot_all _⟩) (HT.out.done _).2⟩
    rw [if_neg e46] at hr ha
    have e46b : ((c : Int) == 46) = false := by rw [beq_eq_false_iff_ne]; omega
    by_cases e92 : c = 92
    · subst e92
      rw [if_pos rfl] at hr ha
      obtain ⟨o, ho⟩ : ∃ o, peekM s b1 = o := ⟨_, rfl⟩
      have k2 := next_is w3 g s b1 o ho HC.out.rdr (by omega)
      rw [ho] at hr ha
      have hlt : ∀ x, o = some x → x < 256 := fun x hx => rpeek_lt (ho.trans hx)
      clear ho
      go_wp2_with fail
      refine k2.mono ?_
      rintro e w4 ⟨rfl, hb4⟩
      have H4 := Lib.hid (HC.out.below hb4)
      clear k2 hb4 HC
      rcases o with _ | x
      · dsimp only at hr ha
        subst hr ha
        have kq := KF.out _ _ H4.out.rdr
        go_wp2_with fail
        refine kq.mono ?_
        rintro e w5 ⟨rfl, hB5, hs5⟩
        have H5 := Lib.hid (H4.out.stp hB5 hs5)
        have c1 := H5.out.rdr.c1
        have f1 := there_free H5.out.rdr.th 1 (by omega)
        have hp5 : (failM b1 2).pos ≤ b1.pos := by rw [failM_pos]; exact Nat.le_refl _
        clear kq hB5 hs5 H4
        go_upto_region 28 with fail
        refine wp_forget2 (fun W => Ca w W nb g s (stepM (failM b1 2)) (nodeC 0 noB nilS)) H5.out.step (fun w6 hw6 => ?_)
        have H6 := Lib.hid hw6
        clear hw6 H5 c1 f1
        have n1 := H6.out.nd.cell (nodeC_set 0 noB nilS 0 (by omega))
        have f1 := H6.out.nd.free (j := 1) (by omega)
        go_upto_region 29 with fail
        refine wp_forget2 (fun W => Ca w W nb g s (stepM (failM b1 2)) (nodeC 0 (fun x => if x = 0 then true else noB x) nilS)) (by
          have := H6.out.put 1 (.bool true) (by omega)
          rw [show (1 : Nat) = 1 + 0 by rfl, nodeC_setB 0 _ _ 0 (by omega)] at this
          exact this) (fun w7 hw7 => ?_)
        have H7 := Lib.hid hw7
        clear hw7 H6 n1 f1
        go_wp2_with (first
      | ((with_reducible refine wpList_loadN rfl _ rfl _ rfl nb 0 ?hx (nodeC 0 (fun x => if x = 0 then true else noB x) nilS) ?hc (nodeC_len _ _ _) ?_); (case hx => rfl); (case hc => exact H7.out.nd.at_))
      | ((with_reducible refine wpList_storeN rfl _ _ rfl _ rfl w.heap.size 0 (nodeC 0 (fun x => if x = 0 then true else noB x) nilS) ?hx ?hy ?ht (nodeC_len _ _ _) (oneN _ _) ?_); (case hx => rfl); (case hy => rfl); (case ht => exact H7.out.res)))
        refine bodyPost_ret (results_agg1 rfl _ _ w.heap.size (nodeC 0 (fun x => if x = 0 then true else noB x) nilS) (.struct _) rfl (World.rangeAt_setCells_same _ _ _ _ (by rw [show (nodeC 0 (fun x => if x = 0 then true else noB x) nilS).length = 258 from nodeC_len _ _ _]; exact H7.out.res)) Tryz.underlying148 rfl (by rw [show (nodeC 0 (fun x => if x = 0 then true else noB x) nilS).length = 258 from nodeC_len _ _ _]; exact node_size)) rfl ?_

        exact ⟨_, _, rfl, Back.mk1 (H7.out.done _).1 rfl (by simp only [stepM]; omega) (fun h0 => absurd h0 (failM_err (by decide))) (H7.out.done _).2⟩
      · have hx := hlt x rfl
        (try dsimp only at hr ha)
        subst hr ha
        have c1 := H4.out.rdr.c1
        have f1 := there_free H4.out.rdr.th 1 (by omega)
        go_upto_region 28 with fail
        refine wp_forget2 (fun W => Ca w W nb g s (stepM b1) (nodeC 0 noB nilS)) H4.out.step (fun w6 hw6 => ?_)
        have H6 := Lib.hid hw6
        clear hw6 H4 c1 f1
        have n1 := H6.out.nd.cell (nodeC_set 0 noB nilS x hx)
        have f1 := H6.out.nd.free (j := 1 + x) (by omega)
        go_upto_region 29 with fail
        refine wp_forget2 (fun W => Ca w W nb g s (stepM b1) (nodeC 0 (fun y => if y = x then true else noB y) nilS)) (by
          have := H6.out.put (1 + x) (.bool true) (by omega)
          rw [nodeC_setB 0 _ _ x hx] at this
          exact this) (fun w7 hw7 => ?_)
        have H7 := Lib.hid hw7
        clear hw7 H6 n1 f1
        go_wp2_with (first
      | ((with_reducible refine wpList_loadN rfl _ rfl _ rfl nb 0 ?hx (nodeC 0 (fun y => if y = x then true else noB y) nilS) ?hc (nodeC_len _ _ _) ?_); (case hx => rfl); (case hc => exact H7.out.nd.at_))
      | ((with_reducible refine wpList_storeN rfl _ _ rfl _ rfl w.heap.size 0 (nodeC 0 (fun y => if y = x then true else noB y) nilS) ?hx ?hy ?ht (nodeC_len _ _ _) (oneN _ _) ?_); (case hx => rfl); (case hy => rfl); (case ht => exact H7.out.res)))
        refine bodyPost_ret (results_agg1 rfl _ _ w.heap.size (nodeC 0 (fun y => if y = x then true else noB y) nilS) (.struct _) rfl (World.rangeAt_setCells_same _ _ _ _ (by rw [show (nodeC 0 (fun y => if y = x then true else noB y) nilS).length = 258 from nodeC_len _ _ _]; exact H7.out.res)) Tryz.underlying148 rfl (by rw [show (nodeC 0 (fun y => if y = x then true else noB y) nilS).length = 258 from nodeC_len _ _ _]; exact node_size)) rfl ?_

        exact ⟨_, _, rfl, Back.mk1 (H7.out.done _).1 rfl (by simp only [stepM]; omega) (fun _ => ⟨rfl, by rw [oneS_eq]⟩) (H7.out.done _).2⟩
    rw [if_neg e92] at hr ha
    have e92b : ((c : Int) == 92) = false := by rw [beq_eq_false_iff_ne]; omega
    by_cases eo : oddB c = true
    · rw [if_pos eo] at hr ha
      subst hr ha
      have h4 : c = 42 ∨ c = 43 ∨ c = 63 ∨ c = 93 := by
        simp only [oddB, postB, Bool.or_eq_true, decide_eq_true_eq] at eo
        omega
      have hc2 : c < 256 := hcl
      clear eo
      have kq := KF.out _ _ HC.out.rdr
      have hp5 : (failM b1 2).pos ≤ b1.pos := by rw [failM_pos]; exact Nat.le_refl _
      rcases h4 with rfl | rfl | rfl | rfl
      · go_wp2_with fail
        refine kq.mono ?_
        rintro e w5 ⟨rfl, hB5, hs5⟩
        have H5 := Lib.hid (HC.out.stp hB5 hs5)
        clear kq hB5 hs5 HC
        have n1 := H5.out.nd.cell (nodeC_set 0 noB nilS 42 (by omega))
        have f1 := H5.out.nd.free (j := 1 + 42) (by omega)
        simp only [Nat.reduceAdd] at n1 f1
        go_upto_region 36 with fail
        refine wp_forget2 (fun W => Ca w W nb g s (failM b1 2) (nodeC 0 (fun x => if x = 42 then true else noB x) nilS)) (by
          have := H5.out.put (1 + 42) (.bool true) (by omega)
          rw [nodeC_setB 0 _ _ 42 (by omega)] at this
          exact this) (fun w7 hw7 => ?_)
        have H7 := Lib.hid hw7
        clear hw7 H5 n1 f1
        go_wp2_with (first
      | ((with_reducible refine wpList_loadN rfl _ rfl _ rfl nb 0 ?hx (nodeC 0 (fun x => if x = 42 then true else noB x) nilS) ?hc (nodeC_len _ _ _) ?_); (case hx => rfl); (case hc => exact H7.out.nd.at_))
      | ((with_reducible refine wpList_storeN rfl _ _ rfl _ rfl w.heap.size 0 (nodeC 0 (fun x => if x = 42 then true else noB x) nilS) ?hx ?hy ?ht (nodeC_len _ _ _) (oneN _ _) ?_); (case hx => rfl); (case hy => rfl); (case ht => exact H7.out.res)))
        refine bodyPost_ret (results_agg1 rfl _ _ w.heap.size (nodeC 0 (fun x => if x = 42 then true else noB x) nilS) (.struct _) rfl (World.rangeAt_setCells_same _ _ _ _ (by rw [show (nodeC 0 (fun x => if x = 42 then true else noB x) nilS).length = 258 from nodeC_len _ _ _]; exact H7.out.res)) Tryz.underlying148 rfl (by rw [show (nodeC 0 (fun x => if x = 42 then true else noB x) nilS).length = 258 from nodeC_len _ _ _]; exact node_size)) rfl ?_
        exact ⟨_, _, rfl, Back.mk1 (H7.out.done _).1 rfl (by omega) (fun h0 => absurd h0 (failM_err (by decide))) (H7.out.done _).2⟩
      · go_wp2_with fail
        refine kq.mono ?_
        rintro e w5 ⟨rfl, hB5, hs5⟩
        have H5 := Lib.hid (HC.out.stp hB5 hs5)
        clear kq hB5 hs5 HC
        have n1 := H5.out.nd.cell (nodeC_set 0 noB nilS 43 (by omega))
        have f1 := H5.out.nd.free (j := 1 + 43) (by omega)
        simp only [Nat.reduceAdd] at n1 f1
        go_upto_region 36 with fail
        refine wp_forget2 (fun W => Ca w W nb g s (failM b1 2) (nodeC 0 (fun x => if x = 43 then true else noB x) nilS)) (by
          have := H5.out.put (1 + 43) (.bool true) (by omega)
          rw [nodeC_setB 0 _ _ 43 (by omega)] at this
          exact this) (fun w7 hw7 => ?_)
        have H7 := Lib.hid hw7
        clear hw7 H5 n1 f1
        go_wp2_with (first
      | ((with_reducible refine wpList_loadN rfl _ rfl _ rfl nb 0 ?hx (nodeC 0 (fun x => if x = 43 then true else noB x) nilS) ?hc (nodeC_len _ _ _) ?_); (case hx => rfl); (case hc => exact H7.out.nd.at_))
      | ((with_reducible refine wpList_storeN rfl _ _ rfl _ rfl w.heap.size 0 (nodeC 0 (fun x => if x = 43 then true else noB x) nilS) ?hx ?hy ?ht (nodeC_len _ _ _) (oneN _ _) ?_); (case hx => rfl); (case hy => rfl); (case ht => exact H7.out.res)))
        refine bodyPost_ret (results_agg1 rfl _ _ w.heap.size (nodeC 0 (fun x => if x = 43 then true else noB x) nilS) (.struct _) rfl (World.rangeAt_setCells_same _ _ _ _ (by rw [show (nodeC 0 (fun x => if x = 43 then true else noB x) nilS).length = 258 from nodeC_len _ _ _]; exact H7.out.res)) Tryz.underlying148 rfl (by rw [show (nodeC 0 (fun x => if x = 43 then true else noB x) nilS).length = 258 from nodeC_len _ _ _]; exact node_size)) rfl ?_
        exact ⟨_, _, rfl, Back.mk1 (H7.out.done _).1 rfl (by omega) (fun h0 => absurd h0 (failM_err (by decide))) (H7.out.done _).2⟩
      · go_wp2_with fail
        refine kq.mono ?_
        rintro e w5 ⟨rfl, hB5, hs5⟩
        have H5 := Lib.hid (HC.out.stp hB5 hs5)
        clear kq hB5 hs5 HC
        have n1 := H5.out.nd.cell (nodeC_set 0 noB nilS 63 (by omega))
        have f1 := H5.out.nd.free (j := 1 + 63) (by omega)
        simp only [Nat.reduceAdd] at n1 f1
        go_upto_region 36 with fail
        refine wp_forget2 (fun W => Ca w W nb g s (failM b1 2) (nodeC 0 (fun x => if x = 63 then true else noB x) nilS)) (by
          have := H5.out.put (1 + 63) (.bool true) (by omega)
          rw [nodeC_setB 0 _ _ 63 (by omega)] at this
          exact this) (fun w7 hw7 => ?_)
        have H7 := Lib.hid hw7
        clear hw7 H5 n1 f1
        go_wp2_with (first
      | ((with_reducible refine wpList_loadN rfl _ rfl _ rfl nb 0 ?hx (nodeC 0 (fun x => if x = 63 then true else noB x) nilS) ?hc (nodeC_len _ _ _) ?_); (case hx => rfl); (case hc => exact H7.out.nd.at_))
      | ((with_reducible refine wpList_storeN rfl _ _ rfl _ rfl w.heap.size 0 (nodeC 0 (fun x => if x = 63 then true else noB x) nilS) ?hx ?hy ?ht (nodeC_len _ _ _) (oneN _ _) ?_); (case hx => rfl); (case hy => rfl); (case ht => exact H7.out.res)))
        refine bodyPost_ret (results_agg1 rfl _ _ w.heap.size (nodeC 0 (fun x => if x = 63 then true else noB x) nilS) (.struct _) rfl (World.rangeAt_setCells_same _ _ _ _ (by rw [show (nodeC 0 (fun x => if x = 63 then true else noB x) nilS).length = 258 from nodeC_len _ _ _]; exact H7.out.res)) Tryz.underlying148 rfl (by rw [show (nodeC 0 (fun x => if x = 63 then true else noB x) nilS).length = 258 from nodeC_len _ _ _]; exact node_size)) rfl ?_
        exact ⟨_, _, rfl, Back.mk1 (H7.out.done _).1 rfl (by omega) (fun h0 => absurd h0 (failM_err (by decide))) (H7.out.done _).2⟩
      · go_wp2_with fail
        refine kq.mono ?_
        rintro e w5 ⟨rfl, hB5, hs5⟩
        have H5 := Lib.hid (HC.out.stp hB5 hs5)
        clear kq hB5 hs5 HC
        have n1 := H5.out.nd.cell (nodeC_set 0 noB nilS 93 (by omega))
        have f1 := H5.out.nd.free (j := 1 + 93) (by omega)
        simp only [Nat.reduceAdd] at n1 f1
        go_upto_region 36 with fail
        refine wp_forget2 (fun W => Ca w W nb g s (failM b1 2) (nodeC 0 (fun x => if x = 93 then true else noB x) nilS)) (by
          have := H5.out.put (1 + 93) (.bool true) (by omega)
          rw [nodeC_setB 0 _ _ 93 (by omega)] at this
          exact this) (fun w7 hw7 => ?_)
        have H7 := Lib.hid hw7
        clear hw7 H5 n1 f1
        go_wp2_with (first
      | ((with_reducible refine wpList_loadN rfl _ rfl _ rfl nb 0 ?hx (nodeC 0 (fun x => if x = 93 then true else noB x) nilS) ?hc (nodeC_len _ _ _) ?_); (case hx => rfl); (case hc => exact H7.out.nd.at_))
      | ((with_reducible refine wpList_storeN rfl _ _ rfl _ rfl w.heap.size 0 (nodeC 0 (fun x => if x = 93 then true else noB x) nilS) ?hx ?hy ?ht (nodeC_len _ _ _) (oneN _ _) ?_); (case hx => rfl); (case hy => rfl); (case ht => exact H7.out.res)))
        refine bodyPost_ret (results_agg1 rfl _ _ w.heap.size (nodeC 0 (fun x => if x = 93 then true else noB x) nilS) (.struct _) rfl (World.rangeAt_setCells_same _ _ _ _ (by rw [show (nodeC 0 (fun x => if x = 93 then true else noB x) nilS).length = 258 from nodeC_len _ _ _]; exact H7.out.res)) Tryz.underlying148 rfl (by rw [show (nodeC 0 (fun x => if x = 93 then true else noB x) nilS).length = 258 from nodeC_len _ _ _]; exact node_size)) rfl ?_
        exact ⟨_, _, rfl, Back.mk1 (H7.out.done _).1 rfl (by omega) (fun h0 => absurd h0 (failM_err (by decide))) (H7.out.done _).2⟩
    · rw [if_neg eo] at hr ha
      subst hr ha
      have g1 : ((c : Int) == 42) = false := by rw [beq_eq_false_iff_ne]; intro h; apply eo; simp [oddB, postB]; omega
      have g2 : ((c : Int) == 43) = false := by rw [beq_eq_false_iff_ne]; intro h; apply eo; simp [oddB, postB]; omega
      have g3 : ((c : Int) == 63) = false := by rw [beq_eq_false_iff_ne]; intro h; apply eo; simp [oddB, postB]; omega
      have g4 : ((c : Int) == 93) = false := by rw [beq_eq_false_iff_ne]; intro h; apply eo; simp [oddB, postB]; omega
      have n1 := HC.out.nd.cell (nodeC_set 0 noB nilS c hcl)
      have f1 := HC.out.nd.free (j := 1 + c) (by omega)
      clear eo
      go_upto_region 36 with fail
      refine wp_forget2 (fun W => Ca w W nb g s b1 (nodeC 0 (fun y => if y = c then true else noB y) nilS)) (by
        have := HC.out.put (1 + c) (.bool true) (by omega)
        rw [nodeC_setB 0 _ _ c hcl] at this
        exact this) (fun w7 hw7 => ?_)
      have H7 := Lib.hid hw7
      clear hw7 n1 f1
      go_wp2_with (first
      | ((with_reducible refine wpList_loadN rfl _ rfl _ rfl nb 0 ?hx (nodeC 0 (fun y => if y = c then true else noB y) nilS) ?hc (nodeC_len _ _ _) ?_); (case hx => rfl); (case hc => exact H7.out.nd.at_))
      | ((with_reducible refine wpList_storeN rfl _ _ rfl _ rfl w.heap.size 0 (nodeC 0 (fun y => if y = c then true else noB y) nilS) ?hx ?hy ?ht (nodeC_len _ _ _) (oneN _ _) ?_); (case hx => rfl); (case hy => rfl); (case ht => exact H7.out.res)))
      refine bodyPost_ret (results_agg1 rfl _ _ w.heap.size (nodeC 0 (fun y => if y = c then true else noB y) nilS) (.struct _) rfl (World.rangeAt_setCells_same _ _ _ _ (by rw [show (nodeC 0 (fun y => if y = c then true else noB y) nilS).length = 258 from nodeC_len _ _ _]; exact H7.out.res)) Tryz.underlying148 rfl (by rw [show (nodeC 0 (fun y => if y = c then true else noB y) nilS).length = 258 from nodeC_len _ _ _]; exact node_size)) rfl ?_

      exact ⟨_, _, rfl, Back.mk1 (H7.out.done _).1 rfl (by omega) (fun _ => ⟨rfl, by rw [oneS_eq]⟩) (H7.out.done _).2⟩
end Go.Proofs.YtcfococinllcmaaGreat

/- The reference's Read: a contract. -/
namespace Go.Proofs.YtcfococinllcmaaGreat
open Go.RowKit

theorem nd_all : ∀ n, NdK 107 .either n ∧ NdK 129 .row n ∧ NdK 155 .atom n
  | 0 => ⟨fun m hm w g s d b _ _ _ _ _ _ hf => by simp only [fuelM] at hf; omega, fun m hm w g s d b _ _ _ _ _ _ hf => by simp only [fuelM] at hf; omega, fun m hm w g s d b _ _ _ _ _ _ hf => by simp only [fuelM] at hf; omega⟩
  | n + 1 => ⟨either_is n (nd_all n).2.1, row_is n (nd_all n).2.2, atom_is n (nd_all n).1⟩
/-- what Read carries behind the reading -/
structure Rz (w wx : World) (nb : Nat) (s : ByteArray) (b : Bs) (cs : List Value) (ok : Prop) (a : Re) : Prop where
  rdr : RdrAt wx (w.heap.size + 1) s b
  nd : NdAt wx nb cs
  res : wx.there w.heap.size 0 258
  bl : Below w.heap.size w wx
  hn : w.heap.size + 1 < nb
  one : ∀ y ∈ cs, y.oneCell' = true
  tree : ok → NA wx (fun q => w.heap.size + 2 ≤ q ∧ q < wx.heap.size) 0 [cs] a
theorem Rz.below {w wx wy : World} {nb : Nat} {s : ByteArray} {b : Bs} {cs : List Value} {ok : Prop} {a : Re} (h : Rz w wx nb s b cs ok a) (hb : Below wx.heap.size wx wy) : Rz w wy nb s b cs ok a :=
  ⟨h.rdr.below hb, h.nd.later hb, there_later h.res hb (by have := h.nd.lt; have := h.hn; omega), h.bl.trans (hb.mono h.bl.size), h.hn, h.one, fun o => ((h.tree o).later hb).mono (fun _ hq => ⟨hq.1, by have := hb.size; omega⟩)⟩
theorem Rz.stp {w wx wy : World} {nb : Nat} {s : ByteArray} {b b' : Bs} {cs : List Value} {ok : Prop} {a : Re} (h : Rz w wx nb s b cs ok a) (hr : RdrAt wy (w.heap.size + 1) s b') (hk : Kr (w.heap.size + 1) wx wy) : Rz w wy nb s b' cs ok a :=
  ⟨hr, h.nd.kr hk (by have := h.hn; omega), there_kept h.res (hk.block _ (by have := h.nd.lt; have := h.hn; omega) (by omega)), h.bl.trans (hk.below h.bl.size (fun k e => by omega)), h.hn, h.one, fun o => ((h.tree o).keep hk.size (fun q hq hlt => hk.block q hlt (by omega))).mono (fun _ hq => ⟨hq.1, by have := hk.size; omega⟩)⟩
theorem Rz.fin {w wx : World} {nb : Nat} {s : ByteArray} {b : Bs} {cs : List Value} {ok : Prop} {a : Re} (h : Rz w wx nb s b cs ok a) (vs : List Value) : RdrAt (wx.setCells w.heap.size 0 vs) (w.heap.size + 1) s b ∧ Below w.heap.size w (wx.setCells w.heap.size 0 vs) ∧ (ok → NA (wx.setCells w.heap.size 0 vs) (fun q => w.heap.size ≤ q ∧ q < (wx.setCells w.heap.size 0 vs).heap.size) 0 [cs] a) :=
  ⟨h.rdr.kept (by rw [size_setCells]; exact Nat.le_refl _) (heap_setCells _ _ _ (by omega) _ _), below_puts h.bl (Nat.le_refl _) vs, fun o => ((h.tree o).keep (w' := wx.setCells w.heap.size 0 vs) (by rw [size_setCells]; exact Nat.le_refl _) (fun q hq _ => heap_setCells _ _ _ (by omega) _ _)).mono (fun q hq => ⟨by omega, by rw [size_setCells]; exact hq.2⟩)⟩
theorem endR_err {s : ByteArray} {b : Bs} (he : b.err = (runR s).1.err) (hp : b.err = 0 → b.pos = (runR s).1.pos) : (endR s).err = if b.err = 0 ∧ b.pos < s.size then 2 else b.err := by
  unfold endR
  by_cases h0 : b.err = 0
  · rw [← hp h0]
    by_cases h1 : b.pos < s.size
    · rw [if_pos h1, if_pos ⟨h0, h1⟩]
      unfold failM
      rw [← he, if_pos h0]
    · rw [if_neg h1, if_neg (fun h => h1 h.2)]
      exact he.symm
  · have hn : ¬ (b.err = 0 ∧ b.pos < s.size) := fun h => h0 h.1
    rw [if_neg hn, he]
    split
    · unfold failM
      rw [← he, if_neg h0]
      exact he.symm
    · rfl
set_option maxHeartbeats 6400000 in
set_option maxRecDepth 100000 in
theorem rread_any (s : ByteArray) (w : World) :
    Calls Tryz.prog 88 #[.string s] w fun e w' => ∃ cs, e = .returned (.tuple #[.agg cs.toArray, .int .i64 (errM s)]) ∧ cs.length = 258 ∧ (∀ y ∈ cs, y.oneCell' = true) ∧ (errM s = 0 → NA w' (fun q => w.heap.size ≤ q ∧ q < w'.heap.size) 0 [cs] (reT s)) ∧ Below w.heap.size w w' := by
  have hT := there_new w 0 148
  have hB := alloc_below w (.cells (zeroN 0) 148)
  by_cases hl : 100 < s.size
  · have hl1 : (100 : Int) < (s.size : Int) := by omega
    have HE : Hid (errM s = 4) := Lib.hid (by unfold errM; rw [if_pos hl])
    have HT := Lib.hid hT
    have HB := Lib.hid hB
    clear hT hB
    go_enter Tryz.func88, Tryz.ntmps88
    go_wp2_with (first
      | (with_reducible refine wpList_allocN rfl rfl _ rfl w.heap.size rfl ?_)
      | ((with_reducible refine wpList_storeN rfl _ _ rfl _ rfl w.heap.size 0 (nodeC 0 noB nilS) ?hx ?hy ?ht (nodeC_len _ _ _) (oneN _ _) ?_); (case hx => rfl); (case hy => rfl); (case ht => exact HT.out)))
    refine bodyPost_ret (results_agg2 rfl _ _ w.heap.size (nodeC 0 noB nilS) (.struct _) rfl (World.rangeAt_setCells_same _ _ _ _ (by rw [nodeC_len]; exact HT.out)) Tryz.underlying148 rfl (by rw [nodeC_len]; exact node_size)) rfl ?_
    refine ⟨nodeC 0 noB nilS, ?_, nodeC_len _ _ _, oneN _ _, fun h0 => ?_, below_puts HB.out (Nat.le_refl _) _⟩
    · rw [HE.out]; rfl
    · rw [HE.out] at h0; exact absurd h0 (by decide)
  · have hl1 : (s.size : Int) ≤ 100 := by omega
    have HL : Hid (¬ 100 < s.size) := Lib.hid hl
    have HEE : Hid (errM s = (endR s).err) := Lib.hid (by unfold errM; rw [if_neg hl])
    have hb2 := hB.trans ((alloc_below (w.alloc (.cells (zeroN 0) 148)) (.cells #[.string s, .int .i64 0, .int .i64 0] 167)).mono hB.size)
    have hsz : ((w.alloc (.cells (zeroN 0) 148)).alloc (.cells #[.string s, .int .i64 0, .int .i64 0] 167)).heap.size = w.heap.size + 2 := by rw [World.size_alloc, World.size_alloc]
    have hrd : RdrAt ((w.alloc (.cells (zeroN 0) 148)).alloc (.cells #[.string s, .int .i64 0, .int .i64 0] 167)) (w.heap.size + 1) s bs0 := by
      have hr := Below.refl ((w.alloc (.cells (zeroN 0) 148)).alloc (.cells #[.string s, .int .i64 0, .int .i64 0] 167)).heap.size ((w.alloc (.cells (zeroN 0) 148)).alloc (.cells #[.string s, .int .i64 0, .int .i64 0] 167))
      have h0 := (box_cells hr).1 0 _ rfl
      have h1 := (box_cells hr).1 1 _ rfl
      have h2 := (box_cells hr).1 2 _ rfl
      have ht := box_there hr
      rw [World.size_alloc] at h0 h1 h2 ht
      exact ⟨h0, h1, h2, ht, by rw [hsz]; omega⟩
    have ht2 := there_later hT (alloc_below _ (.cells #[.string s, .int .i64 0, .int .i64 0] 167)) (by rw [World.size_alloc]; omega)
    obtain ⟨W2, hW2⟩ : ∃ W2, ((w.alloc (.cells (zeroN 0) 148)).alloc (.cells #[.string s, .int .i64 0, .int .i64 0] 167)) = W2 := ⟨_, rfl⟩
    rw [hW2] at hb2 hsz hrd ht2
    have ke := (nd_all (8 * s.size + 5)).1 _ (Nat.le_refl _) W2 (w.heap.size + 1) s 0 bs0 hrd rfl (by omega) (by simp [bs0]) (fun h => by cases h) (by omega) (by simp [fuelM, bs0])
    have HB2 := Lib.hid hb2
    have HT2 := Lib.hid ht2
    clear hb2 hrd ht2 hT hB
    go_enter Tryz.func88, Tryz.ntmps88
    go_upto_region 4 with (with_reducible refine wpList_allocN rfl rfl _ rfl w.heap.size rfl ?_)
    (try simp only [World.size_alloc])
    (try rw [hW2])
    clear hW2
    go_wp2_with fail
    refine ke.mono ?_
    rintro e w3 ⟨cs, b', rfl, hbk⟩
    have hn3 := NdAt.new w3 0 148
    have hs3 := hbk.kr.size
    have hrz : Rz w ((w3.alloc (.cells (zeroN 0) 148)).setCells w3.heap.size 0 cs) w3.heap.size s b' cs (b'.err = 0) (reT s) := by
      have hba := alloc_below w3 (.cells (zeroN 0) 148)
      have hbl3 : Below w.heap.size w w3 := HB2.out.trans (hbk.kr.below HB2.out.size (fun k e => by omega))
      have hlt := hbk.rdr.lt
      refine ⟨(hbk.rdr.below hba).kept (by rw [size_setCells]; exact Nat.le_refl _) (heap_setCells _ _ _ (by omega) _ _), hn3.stored hbk.len, there_kept (there_later (there_kept HT2.out (hbk.kr.block _ (by omega) (by omega))) hba (by omega)) (heap_setCells _ _ _ (by omega) _ _), below_puts (hbl3.trans (hba.mono hbl3.size)) (by omega) _, by omega, hbk.one, fun h0 => ?_⟩
      refine (((hbk.tree h0).2.later hba).keep (w' := (w3.alloc (.cells (zeroN 0) 148)).setCells w3.heap.size 0 cs) (by rw [size_setCells]; exact Nat.le_refl _) (fun q hq _ => heap_setCells _ _ _ (by omega) _ _)).mono (fun q hq => ⟨by omega, by rw [size_setCells, World.size_alloc]; omega⟩)
    have HTH := Lib.hid hn3.th
    have HLN := Lib.hid hbk.len
    have HON := Lib.hid hbk.one
    have HEN := Lib.hid (endR_err hbk.err (fun h0 => (hbk.tree h0).1))
    have hbp := hbk.pos
    clear ke hbk hn3 hs3 hsz HB2 HT2
    go_upto_region 5 with (first
      | (with_reducible refine wpList_allocN rfl rfl _ rfl w3.heap.size rfl ?_)
      | ((with_reducible refine wpList_storeN rfl _ _ rfl _ rfl w3.heap.size 0 cs ?hx ?hy ?ht HLN.out HON.out ?_); (case hx => rfl); (case hy => rfl); (case ht => exact HTH.out)))
    clear HTH
    (try simp only [Act.put, List.setIfInBounds_toArray, List.set_cons_zero, List.set_cons_succ])
    generalize ((w3.alloc (.cells (zeroN 0) 148)).setCells w3.heap.size 0 cs) = w4 at *
    generalize w3.heap.size = nb at *
    have HZ := Lib.hid hrz
    clear hrz
    obtain ⟨B, hB⟩ : ∃ B, decide (b'.err = 0 ∧ b'.pos < s.size) = B := ⟨_, rfl⟩
    have HBB := Lib.hid hB
    clear hB
    go_cut [31] from 32 (fun v wx => v = .bool B ∧ Hid (Rz w wx nb s b' cs (b'.err = 0) (reT s)))
    case first =>
      have c0 := HZ.out.rdr.c0
      have c1 := HZ.out.rdr.c1
      have c2 := HZ.out.rdr.c2
      by_cases h0 : b'.err = 0
      · have hpe : decide (b'.pos < s.size) = B := by rw [← HBB.out]; exact decide_eq_decide.2 ⟨fun h => ⟨h0, h⟩, fun h => h.2⟩
        have hpi : decide ((b'.pos : Int) < (s.size : Int)) = B := by rw [← hpe]; exact decide_eq_decide.2 (by omega)
        rw [h0] at c2
        have HPE := Lib.hid hpe
        clear hpe h0
        go_big_quiet (fail)
        go_wp2
        go_meet
        exact ⟨by first | rfl | exact congrArg Value.bool HPE.out, Lib.hid (HZ.out.below (bl_drewN (Below.refl _ _) _))⟩
      · have hbf : false = B := by rw [← HBB.out]; exact (decide_eq_false (fun h => h0 h.1)).symm
        have h0b : (b'.err == 0) = false := by rw [beq_eq_false_iff_ne]; exact h0
        clear h0
        subst hbf
        go_big_quiet (fail)
        go_wp2
        go_meet
        exact ⟨rfl, Lib.hid (HZ.out.below (bl_drewN (Below.refl _ _) _))⟩
    case rest =>
    obtain ⟨rfl, HY⟩ := hcut
    clear HZ
    go_upto_if 31 with fail
    go_cut [] from 32 (fun wx => ∃ bz : Bs, bz.err = errM s ∧ Hid (Rz w wx nb s bz cs (errM s = 0) (reT s)))
    case first =>
      cases B with
      | true =>
        have h1 := of_decide_eq_true HBB.out
        have kq := rfail_is wc (w.heap.size + 1) s b' 2 HY.out.rdr
        go_wp2_with fail
        refine kq.mono ?_
        rintro e w5 ⟨rfl, hB5, hs5⟩
        have hz := HY.out.stp hB5 hs5
        clear kq
        go_wp2
        go_meet
        have he : errM s = 2 := by rw [HEE.out, HEN.out, if_pos h1]
        refine ⟨failM b' 2, ?_, Lib.hid ⟨hz.rdr, hz.nd, hz.res, hz.bl, hz.hn, hz.one, fun h0 => absurd (he.symm.trans h0) (by decide)⟩⟩
        rw [he]
        unfold failM
        rw [if_pos h1.1]
      | false =>
        have h1 := of_decide_eq_false HBB.out
        go_wp2
        go_meet
        have he : errM s = b'.err := by rw [HEE.out, HEN.out, if_neg h1]
        exact ⟨b', he.symm, Lib.hid (by rw [he]; exact HY.out)⟩
    case rest =>
    obtain ⟨bz, hbz, HX⟩ := hcut
    have HBZ := Lib.hid hbz
    clear HY HBB hbz
    have c2 := HX.out.rdr.c2
    by_cases h0 : bz.err = 0
    · have HE0 : Hid (errM s = 0) := Lib.hid (HBZ.out.symm.trans h0)
      rw [h0] at c2
      go_wp2_with (first
        | ((with_reducible refine wpList_loadN rfl _ rfl _ rfl nb 0 ?hx cs ?hc HLN.out ?_); (case hx => rfl); (case hc => exact HX.out.nd.at_))
        | ((with_reducible refine wpList_storeN rfl _ _ rfl _ rfl w.heap.size 0 cs ?hx ?hy ?ht HLN.out HON.out ?_); (case hx => rfl); (case hy => rfl); (case ht => exact HX.out.res)))
      refine bodyPost_ret (results_agg2 rfl _ _ w.heap.size cs (.struct _) rfl (World.rangeAt_setCells_same _ _ _ _ (by rw [HLN.out]; exact HX.out.res)) Tryz.underlying148 rfl (by rw [HLN.out]; exact node_size)) rfl ?_
      have hf := HX.out.fin cs
      exact ⟨cs, by rw [HE0.out]; rfl, HLN.out, HON.out, fun h => hf.2.2 h, hf.2.1⟩
    · have h0b : (bz.err != 0) = true := by simpa using h0
      have HNE : Hid (¬ errM s = 0) := Lib.hid (fun h => h0 (HBZ.out.trans h))
      clear h0
      have HXD := Lib.hid (HX.out.below ((Below.refl _ _).drew))
      go_upto_region 8 with fail
      refine wp_region_held_drew (S := (fun W => W.cell? ⟨w.heap.size + 1, 2, none⟩ = some (.int .i64 bz.err))) (by kernel_rfl) HX.out.rdr.c2 (fun hHeld => ?_)
      refine held_take (i := 0) (v := ?_) rfl rfl (by kernel_rfl) (by kernel_rfl) (by kernel_rfl) (fun _ _ _ h => h) (by rfl) hHeld ?_ ?_
      rotate_left
      · rintro wh hS
        go_simp
        (try with_reducible rfl)
      simp only [Act.put, List.setIfInBounds_toArray, List.set_cons_zero, List.set_cons_succ]
      refine held_take (i := 1) (v := ?_) rfl rfl (by kernel_rfl) (by kernel_rfl) (by kernel_rfl) (fun _ _ _ h => h) (by rfl) hHeld ?_ ?_
      rotate_left
      · rintro wh hS
        go_simp
        (try with_reducible rfl)
      simp only [Act.put, List.setIfInBounds_toArray, List.set_cons_zero, List.set_cons_succ]
      refine held_take (i := 2) (v := ?_) rfl rfl (by kernel_rfl) (by kernel_rfl) (by kernel_rfl) (fun _ _ _ h => h) (by rfl) hHeld ?_ ?_
      rotate_left
      · rintro wh hS
        go_simp
        (try with_reducible rfl)
      simp only [Act.put, List.setIfInBounds_toArray, List.set_cons_zero, List.set_cons_succ]
      refine held_take (i := 3) (v := ?_) rfl rfl (by kernel_rfl) (by kernel_rfl) (by kernel_rfl) (fun _ _ _ h => h) (by rfl) hHeld ?_ ?_
      rotate_left
      · rintro wh hS
        go_simp
        (try with_reducible rfl)
      simp only [Act.put, List.setIfInBounds_toArray, List.set_cons_zero, List.set_cons_succ]
      refine held_take (i := 4) (v := ?_) rfl rfl (by kernel_rfl) (by kernel_rfl) (by kernel_rfl) (fun _ _ _ h => h) (by rfl) hHeld ?_ ?_
      rotate_left
      · rintro wh hS
        go_simp
        (try with_reducible rfl)
      simp only [Act.put, List.setIfInBounds_toArray, List.set_cons_zero, List.set_cons_succ]
      refine held_step (i := 5) rfl (by kernel_rfl) (fun K hK => ?_)
      rw [if_pos (by rfl)]; refine wp_store_mid 148 _ _ rfl w.heap.size 0 (nodeC 0 noB nilS).toArray ?hx ?hy ?ht ?hi ?h1 ?_; (case hx => rfl); (case hy => rfl); (case ht => simp only [List.size_toArray, nodeC_len]; exact HXD.out.res); (case hi => simp only [List.size_toArray, nodeC_len]; exact node_size); (case h1 => exact all_oneCell_toArray (oneN 0 noB)); simp only [List.getElem_toArray, List.getElem_cons_succ, List.getElem_cons_zero, Act.put]
      refine hK.out _ _ (HXD.out.fin (nodeC 0 noB nilS)).1.c2 (fun hHeld => ?_)
      clear hK K
      (try simp only [Act.put, List.setIfInBounds_toArray])
      refine held_take (i := 6) (v := ?_) rfl rfl (by kernel_rfl) (by kernel_rfl) (by kernel_rfl) (fun _ _ _ h => h) (by rfl) hHeld ?_ ?_
      rotate_left
      · rintro wh hS
        go_simp
        (try with_reducible rfl)
      simp only [Act.put, List.setIfInBounds_toArray, List.set_cons_zero, List.set_cons_succ]
      refine wpAnyH_done (by kernel_rfl) ?_ _
      go_wp2
      refine bodyPost_ret (results_agg2 rfl _ _ w.heap.size (nodeC 0 noB nilS) (.struct _) rfl (World.rangeAt_setCells_same _ _ _ _ (by rw [nodeC_len]; exact HXD.out.res)) Tryz.underlying148 rfl (by rw [nodeC_len]; exact node_size)) rfl ?_
      have hf := HXD.out.fin (nodeC 0 noB nilS)
      exact ⟨nodeC 0 noB nilS, by rw [← HBZ.out]; rfl, nodeC_len _ _ _, oneN _ _, fun h => absurd h HNE.out, hf.2.1⟩
end Go.Proofs.YtcfococinllcmaaGreat

/- Rows of Booleans; lychgateref05.both: a contract. -/
namespace Go.Proofs.YtcfococinllcmaaGreat
open Go.RowKit

theorem wp_forget3 {Pr : Program} {Q : Exit → Act → World → Prop} {c : Code} {a : Act} {W : World} (P : World → Prop) (h : P W) (k : ∀ W', P W' → Code.wp Pr c Q a W') : Code.wp Pr c Q a W := k W h
/-- v is a row of n Booleans of its own block -/
def BsAt (w : World) (v : Value) (n : Nat) (X : Nat → Bool) : Prop := ∃ b, v = .slice (some ⟨b, 0, none⟩) n n ∧ w.rowIs b 4 n (fun j => .bool (X j))
theorem BsAt.later {w w' : World} {v : Value} {n : Nat} {X : Nat → Bool} (h : BsAt w v n X) (hb : Below w.heap.size w w') : BsAt w' v n X := by
  obtain ⟨b, e, hr⟩ := h
  exact ⟨b, e, hr.of_block (hb.block b hr.lt)⟩
theorem BsAt.congr {w : World} {v : Value} {n : Nat} {X Y : Nat → Bool} (h : BsAt w v n X) (e : ∀ j, j < n → X j = Y j) : BsAt w v n Y := by
  obtain ⟨b, e1, hr⟩ := h
  exact ⟨b, e1, hr.congr (fun j hj => by rw [e j hj])⟩
theorem info_bool : (Tryz.prog.info? 4).map (fun i => (i.zero, i.size, i.bytes)) = some (some (.bool false), 1, 1) := by kernel_rfl
theorem bs_made (w : World) (n : Nat) : (w.alloc (.cells (madeCells #[.bool false] n) 4)).rowIs w.heap.size 4 n (fun j => .bool ((fun _ => false) j)) := World.rowIs_made w (.bool false) n _
theorem bs_put {w : World} {b : Nat} {n : Nat} {X : Nat → Bool} (h : w.rowIs b 4 n (fun j => .bool (X j))) (i : Nat) (v : Bool) : (w.setCell ⟨b, i, none⟩ (.bool v)).rowIs b 4 n (fun j => .bool (if j = i then v else X j)) :=
  (h.set i (.bool v)).congr (fun j _ => by by_cases e : j = i <;> simp [e])
/-- a row under way, laid behind w -/
structure BW (w wr : World) (b n : Nat) (X : Nat → Bool) : Prop where
  row : wr.rowIs b 4 n (fun j => .bool (X j))
  bl : Below w.heap.size w wr
  hb : w.heap.size ≤ b
theorem BW.new (w : World) (n : Nat) : BW w (w.alloc (.cells (madeCells #[.bool false] n) 4)) w.heap.size n (fun _ => false) := ⟨bs_made w n, alloc_below _ _, Nat.le_refl _⟩
theorem BW.put {w wr : World} {b n : Nat} {X : Nat → Bool} (h : BW w wr b n X) (i : Nat) (v : Bool) : BW w (wr.setCell ⟨b, i, none⟩ (.bool v)) b n (fun j => if j = i then v else X j) := ⟨bs_put h.row i v, below_put h.bl h.hb, h.hb⟩
theorem BW.congr {w wr : World} {b n : Nat} {X Y : Nat → Bool} (h : BW w wr b n X) (e : ∀ j, j < n → X j = Y j) : BW w wr b n Y := ⟨h.row.congr (fun j hj => by rw [e j hj]), h.bl, h.hb⟩
theorem BW.old {w wr : World} {b n : Nat} {X : Nat → Bool} (h : BW w wr b n X) {g m j : Nat} {Y : Nat → Bool} (hY : w.rowIs g 4 m (fun j => .bool (Y j))) (hj : j < m) : wr.cell? ⟨g, j, none⟩ = some (.bool (Y j)) := keep_cell (hY.cell hj) h.bl hY.lt
set_option maxHeartbeats 1600000 in
set_option maxRecDepth 100000 in
theorem both_any (n : Nat) (A B : Nat → Bool) (av bv : Value) (w : World) (hA : BsAt w av n A) (hB : BsAt w bv n B) (hn : n ≤ 1000) :
    Calls Tryz.prog 148 #[av, bv] w fun e w' => ∃ v, e = .returned v ∧ BsAt w' v n (fun j => A j || B j) ∧ Below w.heap.size w w' := by
  obtain ⟨ab, rfl, hA⟩ := hA
  obtain ⟨bb, rfl, hB⟩ := hB
  obtain ⟨i0, hi, hz0, hz1, hz2⟩ := info_parts info_bool
  have HA := Lib.hid hA
  have HB := Lib.hid hB
  have HN := Lib.hid (BW.new w n)
  clear hA hB
  go_enter Tryz.func148, Tryz.ntmps148
  go_wp2_with ((with_reducible refine wpList_make_row _ rfl _ _ 185 rfl 4 i0 (.bool false) Tryz.underlying185 hi hz0 hz1 rfl .i64 .i64 n ?hl ?hc ?hb ?h63 ?_); (case hl => rfl); (case hc => rfl); (case hb => rw [hz2]; omega); (case h63 => omega))
  refine wp_forget3 (fun W => BW w W w.heap.size n (fun _ => false)) HN.out (fun w1 hw1 => ?_)
  have H1 := Lib.hid hw1
  clear hw1 HN
  go_loopw [6] (fun v wr => ∃ i : Nat, v = .int .i64 (i : Nat) ∧ i ≤ n ∧ Hid (BW w wr w.heap.size n (fun j => if j < i then A j || B j else false))) (fun v _ => n + 1 - (intOf v).toNat)
  case atStart => exact ⟨0, rfl, Nat.zero_le _, Lib.hid (H1.out.congr (fun j _ => by simp))⟩
  case round =>
    clear H1
    obtain ⟨i, rfl, hin, HW⟩ := hrel
    by_cases h : i < n
    · have qa := HW.out.old HA.out h
      have qb := HW.out.old HB.out h
      have qo := HW.out.row.cell h
      have fo := HW.out.row.frozen i
      have hi0 : (0 : Int) ≤ (i : Int) := by omega
      have hi1 : (i : Int) < (n : Int) := by omega
      have HS := Lib.hid ((HW.out.put i (A i || B i)).congr (Y := fun j => if j < i + 1 then A j || B j else false) (fun j _ => by
        by_cases e : j = i
        · subst e; simp
        · by_cases e2 : j < i
          · simp [e, e2, show j < i + 1 by omega]
          · simp [e, e2, show ¬ j < i + 1 by omega]))
      clear HA HB
      cases hA : A i <;> cases hB : B i <;> rw [hA] at qa HS <;> rw [hB] at qb HS
      all_goals
        go_wp2
        go_roundw
        case rel => exact ⟨i + 1, by go_num, by omega, HS⟩
        case measure => (simp [intOf]; try omega)
    · obtain rfl : i = n := by omega
      go_wp2
      go_ret
      exact ⟨_, rfl, ⟨_, rfl, HW.out.row.congr (fun j hj => by rw [if_pos hj])⟩, HW.out.bl⟩
end Go.Proofs.YtcfococinllcmaaGreat

/- The reference's ends, of a set, of alternatives, of a row, of one perhaps: contracts. -/
namespace Go.Proofs.YtcfococinllcmaaGreat
open Go.RowKit

theorem bytesN_at (s : ByteArray) (i : Nat) (h : i < (bytesN s).length) : (bytesN s)[i] = byteM s i := by
  have hs : i < s.size := by rw [bytesN_len] at h; exact h
  unfold byteM
  rw [dif_pos hs]
  exact List.getElem_map (fun (x : UInt8) => x.toNat)
/-- where a text of a may end that begins where X says -/
def EnB (s : ByteArray) (a : Re) (X Y : Nat → Bool) : Prop := ∀ j, j ≤ s.size → (Y j = true ↔ En (bytesN s) a (fun i => X i = true) j)
/-- ends does so at a node, from a world on -/
def EndsK (w : World) (s : ByteArray) (x : List Value) (a : Re) : Prop := ∀ (w' : World), Below w.heap.size w w' → ∀ (v : Value) (X : Nat → Bool), BsAt w' v (s.size + 1) X →
  Calls Tryz.prog 123 #[.agg x.toArray, .string s, v] w' fun e w'' => ∃ v' Y, e = .returned v' ∧ BsAt w'' v' (s.size + 1) Y ∧ EnB s a X Y ∧ Below w'.heap.size w' w''
/-- what ends carries: the node's box, behind it all is new -/
structure Ez (w wr : World) (x : List Value) : Prop where
  at_ : wr.rangeAt w.heap.size 0 x
  lt : w.heap.size < wr.heap.size
  bl : Below w.heap.size w wr
theorem Ez.below {w wr wr' : World} {x : List Value} (h : Ez w wr x) (hb : Below wr.heap.size wr wr') : Ez w wr' x := ⟨range_later h.at_ hb h.lt, Nat.lt_of_lt_of_le h.lt hb.size, h.bl.trans (hb.mono h.bl.size)⟩
theorem Ez.cell {w wr : World} {x : List Value} (h : Ez w wr x) {j : Nat} {v : Value} (hv : x[j]? = some v) : wr.cell? ⟨w.heap.size, j, none⟩ = some v := by
  have := h.at_ j v hv
  rwa [Nat.zero_add] at this
theorem Ez.set {w wr : World} {x : List Value} (h : Ez w wr x) {b : Nat} (hb : w.heap.size < b) (i : Nat) (v : Value) : Ez w (wr.setCell ⟨b, i, none⟩ v) x :=
  ⟨fun j u hu => by rw [rfar (by omega)]; exact h.at_ j u hu, by simpa using h.lt, below_put h.bl (by omega)⟩
theorem Ez.new (w : World) (x : List Value) (t u : TypeId) (c : Array Value) : Ez w ((w.alloc (.cells x.toArray t)).alloc (.cells c u)) x := by
  have h0 := box_range (Below.refl _ (w.alloc (.cells x.toArray t)))
  have hb := alloc_below (w.alloc (.cells x.toArray t)) (.cells c u)
  have h1 := alloc_below w (.cells x.toArray t)
  refine ⟨range_later (by simpa using h0) hb (by rw [World.size_alloc]; omega), by rw [World.size_alloc, World.size_alloc]; omega, h1.trans (hb.mono h1.size)⟩
theorem row_new (w : World) (x : Array Value) (t : TypeId) (n : Nat) : ((w.alloc (.cells x t)).alloc (.cells (madeCells #[.bool false] n) 4)).rowIs (w.heap.size + 1) 4 n (fun j => .bool ((fun _ => false) j)) := by
  have := bs_made (w.alloc (.cells x t)) n
  rwa [World.size_alloc] at this
/-- kids, each where it lies -/
theorem KidsAt.at {w : World} {P : Nat → Prop} {kv : Value} {l : List (List Value)} (h : KidsAt w P kv l) : ∃ a c, kv = .slice a l.length c ∧ l.length ≤ c ∧ (0 < l.length → ∃ b o, a = some ⟨b, o, none⟩ ∧ b < w.heap.size ∧ ∀ k (hk : k < l.length), w.rangeAt b (o + k * 258) l[k]) := by
  obtain ⟨a, c, rfl, hc, hr⟩ := RdAt.shape h.row
  refine ⟨a, c, rfl, hc, fun hn => ?_⟩
  obtain ⟨b, o, rfl, hb, hcell⟩ := hr hn
  refine ⟨b, o, rfl, hb, fun k hk j v hv => ?_⟩
  rw [Nat.add_assoc]
  refine hcell (k * 258 + j) v ?_
  have key : ∀ (l : List (List Value)), (∀ x ∈ l, x.length = 258) → ∀ k (hk : k < l.length) j, j < 258 → l.flatten[k * 258 + j]? = l[k][j]? := by
    intro l
    induction l with
    | nil => intro _ k hk; exact absurd hk (by simp)
    | cons x l ih =>
      intro hx k hk j hj
      have hx0 := hx x List.mem_cons_self
      rw [List.flatten_cons]
      cases k with
      | zero => rw [Nat.zero_mul, Nat.zero_add, List.getElem?_append_left (by omega)]; rfl
      | succ k =>
        rw [List.getElem?_append_right (by omega), hx0, show (k + 1) * 258 + j - 258 = k * 258 + j by omega, ih (fun y hy => hx y (List.mem_cons_of_mem _ hy)) k (by simpa using hk) j hj]
        rfl
  rw [key l h.each k hk j (by have := (List.getElem?_eq_some_iff.1 hv).1; rw [h.each _ (List.getElem_mem hk)] at this; exact this)]
  exact hv
def setY (s : ByteArray) (S X : Nat → Bool) (i j : Nat) : Bool := decide (1 ≤ j) && (decide (j ≤ i) && (X (j - 1) && S (byteM s (j - 1))))
theorem setY_succ (s : ByteArray) (S X : Nat → Bool) (i j : Nat) : (if j = i + 1 then X i && S (byteM s i) else setY s S X i j) = setY s S X (i + 1) j := by
  unfold setY
  by_cases e : j = i + 1
  · subst e
    rw [if_pos rfl, decide_eq_true (show 1 ≤ i + 1 by omega), decide_eq_true (Nat.le_refl (i + 1))]
    simp
  · rw [if_neg e]
    congr 2
    exact decide_eq_decide.2 (by omega)
theorem setY_en (s : ByteArray) (S X : Nat → Bool) : EnB s (.set S) X (setY s S X s.size) := by
  intro j hj
  unfold setY
  cases j with
  | zero => exact ⟨fun h => by simp at h, fun h => absurd h (En_set0 _ _ _)⟩
  | succ j =>
    have hlt : j < (bytesN s).length := by rw [bytesN_len]; omega
    rw [En_set _ _ _ _ hlt, bytesN_at s j hlt, decide_eq_true (show 1 ≤ j + 1 by omega), decide_eq_true hj]
    simp
set_option maxHeartbeats 3200000 in
set_option maxRecDepth 100000 in
theorem ends_set (w0 : World) (s : ByteArray) (S : Nat → Bool) (kv : Value) (hs : s.size ≤ 900) : EndsK w0 s (nodeC 0 S kv) (.set S) := by
  intro w _ v X hv
  obtain ⟨ab, rfl, hX⟩ := hv
  obtain ⟨i0, hi, hz0, hz1, hz2⟩ := info_parts info_bool
  have HX := Lib.hid hX
  have HE := Lib.hid (Ez.new w (nodeC 0 S kv) 148 4 (madeCells #[.bool false] (s.size + 1)))
  have HR := Lib.hid (row_new w (nodeC 0 S kv).toArray 148 (s.size + 1))
  clear hX
  go_enter Tryz.func123, Tryz.ntmps123
  go_upto_region 2 with (first
    | ((with_reducible refine Great.wpList_boxTo rfl _ _ rfl _ rfl w.heap.size rfl (nodeC 0 S kv).toArray ?hx ?_); (case hx => rfl))
    | ((with_reducible refine wpList_make_row _ rfl _ _ 185 rfl 4 i0 (.bool false) Tryz.underlying185 hi hz0 hz1 rfl .i64 .i64 (s.size + 1) ?hl ?hc ?hb ?h63 ?_); (case hl => rfl); (case hc => rfl); (case hb => rw [hz2]; omega); (case h63 => omega)))
  (try simp only [World.size_alloc])
  refine wp_forget3 (fun W => Ez w W (nodeC 0 S kv) ∧ W.rowIs (w.heap.size + 1) 4 (s.size + 1) (fun j => .bool ((fun _ => false) j))) ⟨HE.out, HR.out⟩ (fun w1 hw1 => ?_)
  have H1 := Lib.hid hw1.1
  have HR1 := Lib.hid hw1.2
  have c0 := H1.out.cell (nodeC_0 _ _ _)
  clear hw1 HE HR
  go_wp2
  go_loopw [8] (fun vi wr => ∃ i : Nat, vi = .int .i64 (i : Nat) ∧ i ≤ s.size ∧ Hid (Ez w wr (nodeC 0 S kv)) ∧ Hid (wr.rowIs (w.heap.size + 1) 4 (s.size + 1) (fun j => .bool (setY s S X i j)))) (fun v _ => s.size + 1 - (intOf v).toNat)
  case atStart => exact ⟨0, rfl, Nat.zero_le _, H1, Lib.hid (HR1.out.congr (fun j _ => by
    unfold setY
    by_cases h : 1 ≤ j
    · rw [decide_eq_false (show ¬ j ≤ 0 by omega)]; simp
    · rw [decide_eq_false h]; simp))⟩
  case round =>
    clear H1 HR1 c0
    obtain ⟨i, rfl, hin, HZ, HW⟩ := hrel
    by_cases h : i < s.size
    · obtain ⟨c, hc⟩ : ∃ c, byteM s i = c := ⟨_, rfl⟩
      have hbx := rbyte_at s i h
      have hc256 := byteM_lt s i
      have qa := keep_cell (HX.out.cell (show i < s.size + 1 by omega)) HZ.out.bl HX.out.lt
      have qo := HW.out.cell (show i + 1 < s.size + 1 by omega)
      have fo := HW.out.frozen (i + 1)
      have HS := Lib.hid (((bs_put HW.out (i + 1) (X i && S (byteM s i)))).congr (g := fun j => .bool (setY s S X (i + 1) j)) (fun j _ => by rw [setY_succ]))
      rw [hc] at hbx hc256 HS
      have qs := HZ.out.cell (nodeC_set 0 S kv c hc256)
      have HZ2 := Lib.hid (HZ.out.set (show w.heap.size < w.heap.size + 1 by omega) (i + 1) (.bool (X i && S c)))
      have hi0 : (0 : Int) ≤ (i : Int) := by omega
      have hi1 : (i : Int) < (s.size : Int) := by omega
      have hci0 : (0 : Int) ≤ (c : Int) := by omega
      have hci1 : (c : Int) < 256 := by omega
      clear hc HX HZ HW
      cases hXi : X i with
      | false =>
        rw [hXi] at qa HS HZ2
        clear hbx qs
        go_wp2
        go_roundw
        case rel => exact ⟨i + 1, by go_num, by omega, HZ2, HS⟩
        case measure => (simp [intOf]; try omega)
      | true =>
        rw [hXi] at qa HS HZ2
        cases hSc : S c with
        | false =>
          rw [hSc] at qs HS HZ2
          go_wp2
          go_roundw
          case rel => exact ⟨i + 1, by go_num, by omega, HZ2, HS⟩
          case measure => (simp [intOf]; try omega)
        | true =>
          rw [hSc] at qs HS HZ2
          go_wp2
          go_roundw
          case rel => exact ⟨i + 1, by go_num, by omega, HZ2, HS⟩
          case measure => (simp [intOf]; try omega)
    · obtain rfl : i = s.size := by omega
      go_wp2
      go_ret
      exact ⟨_, setY s S X s.size, rfl, ⟨_, rfl, HW.out⟩, setY_en s S X, HZ.out.bl⟩
/-- a row's kids, part by part -/
structure Kd (w0 : World) (s : ByteArray) (P : Nat → Prop) (kv : Value) (l : List (List Value)) (bs : List Re) : Prop where
  kids : KidsAt w0 P kv l
  len : bs.length = l.length
  each : ∀ i (h : i < l.length) (h2 : i < bs.length), EndsK w0 s l[i] bs[i]
theorem take_fold {f : Re → Re → Re} {z : Re} {bs : List Re} {k : Nat} (h : k < bs.length) : (bs.take (k + 1)).foldl f z = f ((bs.take k).foldl f z) bs[k] := by
  rw [List.take_add_one, List.getElem?_eq_getElem h, List.foldl_append]
  rfl
set_option maxHeartbeats 3200000 in
set_option maxRecDepth 100000 in
theorem ends_alts (w0 : World) (s : ByteArray) (P : Nat → Prop) (S : Nat → Bool) (kv : Value) (l : List (List Value)) (bs : List Re) (hk : Kd w0 s P kv l bs) (hs : s.size ≤ 900) : EndsK w0 s (nodeC 1 S kv) (bs.foldl Re.alt .no) := by
  intro w hb0 v X hv
  obtain ⟨ab, rfl, hX⟩ := hv
  obtain ⟨ka, kc, rfl, -, hkk⟩ := hk.kids.at
  have HK := Lib.hid hk
  have HKK := Lib.hid hkk
  have HB0 := Lib.hid hb0
  have hfew := hk.kids.few
  clear hk hkk hb0
  obtain ⟨i0, hi, hz0, hz1, hz2⟩ := info_parts info_bool
  have HX := Lib.hid hX
  have HE := Lib.hid (Ez.new w (nodeC 1 S (.slice ka l.length kc)) 148 4 (madeCells #[.bool false] (s.size + 1)))
  have HR := Lib.hid (row_new w (nodeC 1 S (.slice ka l.length kc)).toArray 148 (s.size + 1))
  clear hX
  go_enter Tryz.func123, Tryz.ntmps123
  go_upto_region 2 with (first
    | ((with_reducible refine Great.wpList_boxTo rfl _ _ rfl _ rfl w.heap.size rfl (nodeC 1 S (.slice ka l.length kc)).toArray ?hx ?_); (case hx => rfl))
    | ((with_reducible refine wpList_make_row _ rfl _ _ 185 rfl 4 i0 (.bool false) Tryz.underlying185 hi hz0 hz1 rfl .i64 .i64 (s.size + 1) ?hl ?hc ?hb ?h63 ?_); (case hl => rfl); (case hc => rfl); (case hb => rw [hz2]; omega); (case h63 => omega)))
  (try simp only [World.size_alloc])
  refine wp_forget3 (fun W => Ez w W (nodeC 1 S (.slice ka l.length kc)) ∧ W.rowIs (w.heap.size + 1) 4 (s.size + 1) (fun j => .bool ((fun _ => false) j))) ⟨HE.out, HR.out⟩ (fun w1 hw1 => ?_)
  have H1 := Lib.hid hw1.1
  have HR1 := Lib.hid hw1.2
  have c0 := H1.out.cell (nodeC_0 _ _ _)
  clear hw1 HE HR
  go_wp2
  go_loopw [7, 9] (fun v7 vi wr => ∃ (i : Nat) (Y : Nat → Bool), vi = .int .i64 (i : Nat) ∧ i ≤ l.length ∧ Hid (Ez w wr (nodeC 1 S (.slice ka l.length kc))) ∧ Hid (BsAt wr v7 (s.size + 1) Y) ∧ Hid (EnB s ((bs.take i).foldl Re.alt .no) X Y)) (fun _ v _ => l.length + 1 - (intOf v).toNat)
  case atStart => exact ⟨0, fun _ => false, rfl, Nat.zero_le _, H1, Lib.hid ⟨_, rfl, HR1.out⟩, Lib.hid (fun j _ => ⟨fun h => by simp at h, fun h => absurd h (En_no _ _ _)⟩)⟩
  case round =>
    clear H1 HR1 c0
    obtain ⟨i, Y, rfl, hin, HZ, HY, HN⟩ := hrel
    have q257 := HZ.out.cell (nodeC_kids _ _ _)
    by_cases h : i < l.length
    · obtain ⟨b, o, rfl, hbl, hat⟩ := HKK.out (by omega)
      have hbs : i < bs.length := by rw [HK.out.len]; exact h
      have hbw := HB0.out.trans (HZ.out.bl.mono HB0.out.size)
      have HAT := Lib.hid (range_later (hat i h) hbw hbl)
      have hlen := HK.out.kids.each _ (List.getElem_mem h)
      have ke := HK.out.each i h hbs wr hbw _ X ⟨ab, rfl, HX.out.of_block (HZ.out.bl.block ab HX.out.lt)⟩
      have HTF := Lib.hid (take_fold (f := Re.alt) (z := .no) hbs)
      have hi0 : (0 : Int) ≤ (i : Int) := by omega
      have hi1 : (i : Int) < (l.length : Int) := by omega
      clear hat hbw hbl
      generalize l[i] = x at *
      generalize bs[i] = y at *
      go_wp2_with ((with_reducible refine wpList_loadN rfl _ rfl _ rfl b (o + i * 258) ?hx x ?hc hlen ?_); (case hx => rfl); (case hc => exact HAT.out))
      refine ke.mono ?_
      rintro e w4 ⟨v', Y', rfl, hY', hE', hb4⟩
      have kb := both_any (s.size + 1) Y Y' u7 v' w4 (HY.out.later hb4) hY' (by omega)
      have HZ4 := Lib.hid (HZ.out.below hb4)
      have HE' := Lib.hid hE'
      clear ke hY' hE' hb4 q257
      go_wp2_with fail
      refine kb.mono ?_
      rintro e w5 ⟨v2, rfl, hY2, hb5⟩
      have HZ5 := Lib.hid (HZ4.out.below hb5)
      have HY5 := Lib.hid hY2
      clear kb hY2 hb5 HZ HZ4 HY HAT
      go_wp2
      go_roundw
      case rel =>
        refine ⟨i + 1, fun j => Y j || Y' j, by go_num, by omega, HZ5, HY5, Lib.hid (fun j hj => ?_)⟩
        rw [HTF.out, En_alt, ← HN.out j hj, ← HE'.out j hj]
        simp
      case measure => (simp [intOf]; try omega)
    · obtain rfl : i = l.length := by omega
      have hi1 : ¬ (l.length : Int) < (l.length : Int) := by omega
      have HFIN : Hid (EnB s (bs.foldl Re.alt .no) X Y) := Lib.hid (by
        have := HN.out
        rwa [← HK.out.len, List.take_length] at this)
      clear HKK HK HN
      go_wp2
      go_ret
      first
        | exact ⟨_, Y, rfl, HY.out, HFIN.out, HZ.out.bl⟩
        | exact ⟨_, rfl, Y, HY.out, HFIN.out, HZ.out.bl⟩
set_option maxHeartbeats 3200000 in
set_option maxRecDepth 100000 in
theorem ends_row (w0 : World) (s : ByteArray) (P : Nat → Prop) (S : Nat → Bool) (kv : Value) (l : List (List Value)) (bs : List Re) (hk : Kd w0 s P kv l bs) (hs : s.size ≤ 900) : EndsK w0 s (nodeC 2 S kv) (bs.foldl Re.cat .eps) := by
  intro w hb0 v X hv
  obtain ⟨ab, rfl, hX⟩ := hv
  obtain ⟨ka, kc, rfl, -, hkk⟩ := hk.kids.at
  have HK := Lib.hid hk
  have HKK := Lib.hid hkk
  have HB0 := Lib.hid hb0
  have hfew := hk.kids.few
  clear hk hkk hb0
  obtain ⟨i0, hi, hz0, hz1, hz2⟩ := info_parts info_bool
  have HX := Lib.hid hX
  have HE := Lib.hid (Ez.new w (nodeC 2 S (.slice ka l.length kc)) 148 4 (madeCells #[.bool false] (s.size + 1)))
  have HR := Lib.hid (row_new w (nodeC 2 S (.slice ka l.length kc)).toArray 148 (s.size + 1))
  clear hX
  go_enter Tryz.func123, Tryz.ntmps123
  go_upto_region 2 with (first
    | ((with_reducible refine Great.wpList_boxTo rfl _ _ rfl _ rfl w.heap.size rfl (nodeC 2 S (.slice ka l.length kc)).toArray ?hx ?_); (case hx => rfl))
    | ((with_reducible refine wpList_make_row _ rfl _ _ 185 rfl 4 i0 (.bool false) Tryz.underlying185 hi hz0 hz1 rfl .i64 .i64 (s.size + 1) ?hl ?hc ?hb ?h63 ?_); (case hl => rfl); (case hc => rfl); (case hb => rw [hz2]; omega); (case h63 => omega)))
  (try simp only [World.size_alloc])
  refine wp_forget3 (fun W => Ez w W (nodeC 2 S (.slice ka l.length kc)) ∧ W.rowIs (w.heap.size + 1) 4 (s.size + 1) (fun j => .bool ((fun _ => false) j))) ⟨HE.out, HR.out⟩ (fun w1 hw1 => ?_)
  have H1 := Lib.hid hw1.1
  have HR1 := Lib.hid hw1.2
  have c0 := H1.out.cell (nodeC_0 _ _ _)
  clear hw1 HE HR
  have HX1 : Hid (BsAt w1 (.slice (some ⟨ab, 0, none⟩) (s.size + 1) (s.size + 1)) (s.size + 1) X) := Lib.hid ⟨ab, rfl, HX.out.of_block (H1.out.bl.block ab HX.out.lt)⟩
  go_wp2
  go_loopw [7, 10] (fun v7 vi wr => ∃ (i : Nat) (Y : Nat → Bool), vi = .int .i64 (i : Nat) ∧ i ≤ l.length ∧ Hid (Ez w wr (nodeC 2 S (.slice ka l.length kc))) ∧ Hid (BsAt wr v7 (s.size + 1) Y) ∧ Hid (EnB s ((bs.take i).foldl Re.cat .eps) X Y)) (fun _ v _ => l.length + 1 - (intOf v).toNat)
  case atStart => exact ⟨0, X, rfl, Nat.zero_le _, H1, HX1, Lib.hid (fun j hj => by rw [List.take_zero, List.foldl_nil, En_eps, bytesN_len]; exact ⟨fun h => ⟨hj, h⟩, fun h => h.2⟩)⟩
  case round =>
    clear H1 HR1 HX1 c0
    obtain ⟨i, Y, rfl, hin, HZ, HY, HN⟩ := hrel
    have q257 := HZ.out.cell (nodeC_kids _ _ _)
    by_cases h : i < l.length
    · obtain ⟨b, o, rfl, hbl, hat⟩ := HKK.out (by omega)
      have hbs : i < bs.length := by rw [HK.out.len]; exact h
      have hbw := HB0.out.trans (HZ.out.bl.mono HB0.out.size)
      have HAT := Lib.hid (range_later (hat i h) hbw hbl)
      have hlen := HK.out.kids.each _ (List.getElem_mem h)
      have ke := HK.out.each i h hbs wr hbw u7 Y HY.out
      have HTF := Lib.hid (take_fold (f := Re.cat) (z := .eps) hbs)
      have hi0 : (0 : Int) ≤ (i : Int) := by omega
      have hi1 : (i : Int) < (l.length : Int) := by omega
      clear hat hbw hbl
      generalize l[i] = x at *
      generalize bs[i] = y at *
      go_wp2_with ((with_reducible refine wpList_loadN rfl _ rfl _ rfl b (o + i * 258) ?hx x ?hc hlen ?_); (case hx => rfl); (case hc => exact HAT.out))
      refine ke.mono ?_
      rintro e w4 ⟨v', Y', rfl, hY', hE', hb4⟩
      have HZ4 := Lib.hid (HZ.out.below hb4)
      have HE' := Lib.hid hE'
      have HY4 := Lib.hid hY'
      clear ke hY' hE' hb4 q257 HZ HY HAT
      go_wp2
      go_roundw
      case rel =>
        refine ⟨i + 1, Y', by go_num, by omega, HZ4, HY4, Lib.hid (fun j hj => ?_)⟩
        rw [HTF.out, En_cat, HE'.out j hj]
        exact En.congr (fun k hk => HN.out k (by rw [bytesN_len] at hk; exact hk))
      case measure => (simp [intOf]; try omega)
    · obtain rfl : i = l.length := by omega
      have hi1 : ¬ (l.length : Int) < (l.length : Int) := by omega
      have HFIN : Hid (EnB s (bs.foldl Re.cat .eps) X Y) := Lib.hid (by
        have := HN.out
        rwa [← HK.out.len, List.take_length] at this)
      clear HKK HK HN
      go_wp2
      go_ret
      first
        | exact ⟨_, Y, rfl, HY.out, HFIN.out, HZ.out.bl⟩
        | exact ⟨_, rfl, Y, HY.out, HFIN.out, HZ.out.bl⟩
set_option maxHeartbeats 3200000 in
set_option maxRecDepth 100000 in
theorem ends_opt (w0 : World) (s : ByteArray) (P : Nat → Prop) (S : Nat → Bool) (kv : Value) (x : List Value) (a : Re) (hk : KidsAt w0 P kv [x]) (hK : EndsK w0 s x a) (hs : s.size ≤ 900) : EndsK w0 s (nodeC 5 S kv) (.opt a) := by
  intro w hb0 v X hv
  obtain ⟨ab, rfl, hX⟩ := hv
  obtain ⟨ka, kc, rfl, -, hkk⟩ := hk.at
  obtain ⟨b, o, rfl, hbl, hat⟩ := hkk (by simp)
  have hlen := hk.each x (List.mem_singleton.2 rfl)
  have hat0 := hat 0 (by simp)
  rw [Nat.zero_mul, Nat.add_zero] at hat0
  have HA0 : Hid (w0.rangeAt b o x) := Lib.hid hat0
  have HK := Lib.hid hK
  have HB0 := Lib.hid hb0
  clear hk hK hkk hat hat0 hb0
  dsimp only [List.length_singleton]
  obtain ⟨i0, hi, hz0, hz1, hz2⟩ := info_parts info_bool
  have HX := Lib.hid hX
  have HE := Lib.hid (Ez.new w (nodeC 5 S (.slice (some ⟨b, o, none⟩) 1 kc)) 148 4 (madeCells #[.bool false] (s.size + 1)))
  have HR := Lib.hid (row_new w (nodeC 5 S (.slice (some ⟨b, o, none⟩) 1 kc)).toArray 148 (s.size + 1))
  clear hX
  go_enter Tryz.func123, Tryz.ntmps123
  go_upto_region 2 with (first
    | ((with_reducible refine Great.wpList_boxTo rfl _ _ rfl _ rfl w.heap.size rfl (nodeC 5 S (.slice (some ⟨b, o, none⟩) 1 kc)).toArray ?hx ?_); (case hx => rfl))
    | ((with_reducible refine wpList_make_row _ rfl _ _ 185 rfl 4 i0 (.bool false) Tryz.underlying185 hi hz0 hz1 rfl .i64 .i64 (s.size + 1) ?hl ?hc ?hb ?h63 ?_); (case hl => rfl); (case hc => rfl); (case hb => rw [hz2]; omega); (case h63 => omega)))
  (try simp only [World.size_alloc])
  refine wp_forget3 (fun W => Ez w W (nodeC 5 S (.slice (some ⟨b, o, none⟩) 1 kc)) ∧ W.rowIs (w.heap.size + 1) 4 (s.size + 1) (fun j => .bool ((fun _ => false) j))) ⟨HE.out, HR.out⟩ (fun w1 hw1 => ?_)
  have H1 := Lib.hid hw1.1
  have HR1 := Lib.hid hw1.2
  have c0 := H1.out.cell (nodeC_0 _ _ _)
  clear hw1 HE HR
  have hbw := HB0.out.trans (H1.out.bl.mono HB0.out.size)
  have HAT := Lib.hid (range_later HA0.out hbw hbl)
  have HX1 : Hid (BsAt w1 (.slice (some ⟨ab, 0, none⟩) (s.size + 1) (s.size + 1)) (s.size + 1) X) := Lib.hid ⟨ab, rfl, HX.out.of_block (H1.out.bl.block ab HX.out.lt)⟩
  have ke := HK.out w1 hbw _ X HX1.out
  have q257 := H1.out.cell (nodeC_kids 5 S (.slice (some ⟨b, o, none⟩) 1 kc))
  clear hbw HR1
  go_wp2_with ((with_reducible refine wpList_loadN rfl _ rfl _ rfl b o ?hx x ?hc hlen ?_); (case hx => rfl); (case hc => exact HAT.out))
  refine ke.mono ?_
  rintro e w4 ⟨v', Y', rfl, hY', hE', hb4⟩
  have kb := both_any (s.size + 1) X Y' _ v' w4 (HX1.out.later hb4) hY' (by omega)
  have HZ4 := Lib.hid (H1.out.below hb4)
  have HE' := Lib.hid hE'
  clear ke hY' hE' hb4 q257 c0
  go_wp2_with fail
  refine kb.mono ?_
  rintro e w5 ⟨v2, rfl, hY2, hb5⟩
  have HZ5 := Lib.hid (HZ4.out.below hb5)
  have HY5 := Lib.hid hY2
  clear kb hY2 hb5
  go_wp2
  go_ret
  refine ⟨_, fun j => X j || Y' j, rfl, HY5.out, fun j hj => ?_, HZ5.out.bl⟩
  rw [En_opt, ← HE'.out j hj, bytesN_len]
  simp [hj]
end Go.Proofs.YtcfococinllcmaaGreat

/- The reference's ends, of any number of times, of once and more: contracts. -/
namespace Go.Proofs.YtcfococinllcmaaGreat
open Go.RowKit

/-- how many of a row don't stand, read out of memory -/
def cntF (w : World) (v : Value) (n : Nat) : Nat := match v with
  | .slice (some a) _ _ => (List.range n).countP (fun j => match w.cell? ⟨a.block, j, none⟩ with | some (.bool b) => !b | _ => true)
  | _ => 0
theorem BsAt.cnt {w : World} {v : Value} {n : Nat} {X : Nat → Bool} (h : BsAt w v n X) : cntF w v n = (List.range n).countP (fun j => !X j) := by
  obtain ⟨b, rfl, hr⟩ := h
  unfold cntF
  refine List.countP_congr (fun j hj => ?_)
  rw [hr.cell (List.mem_range.1 hj)]
theorem countP_le' (p q : Nat → Bool) (l : List Nat) (h : ∀ x ∈ l, q x = true → p x = true) : l.countP q ≤ l.countP p := List.countP_mono_left h
theorem countP_lt' (p q : Nat → Bool) : ∀ (l : List Nat), (∀ x ∈ l, q x = true → p x = true) → (∃ x ∈ l, p x = true ∧ q x = false) → l.countP q < l.countP p
  | [], _, h => by obtain ⟨x, hx, _⟩ := h; cases hx
  | y :: l, h1, h2 => by
    obtain ⟨x, hx, hp, hq⟩ := h2
    have h3 := countP_le' p q l (fun z hz => h1 z (List.mem_cons_of_mem _ hz))
    rw [List.countP_cons, List.countP_cons]
    rcases List.mem_cons.1 hx with rfl | hx
    · rw [hp, hq]; simp; omega
    · have := countP_lt' p q l (fun z hz => h1 z (List.mem_cons_of_mem _ hz)) ⟨x, hx, hp, hq⟩
      have h4 : (if q y = true then 1 else 0) ≤ (if p y = true then 1 else 0) := by
        by_cases h : q y = true
        · rw [if_pos h, if_pos (h1 y List.mem_cons_self h)]; exact Nat.le_refl _
        · rw [if_neg h]; exact Nat.zero_le _
      omega
def moreN (v : Value) : Nat := match v with
  | .bool true => 1
  | _ => 0
/-- is there one of the first i that is new? -/
def newB (St O : Nat → Bool) (i : Nat) : Bool := (List.range i).any (fun j => St j && !O j)
theorem newB_succ (St O : Nat → Bool) (i : Nat) : newB St O (i + 1) = (newB St O i || (St i && !O i)) := by unfold newB; rw [List.range_succ, List.any_append]; simp
/-- the rounds' relation: k rounds; from lo on they count; none is new behind the last -/
structure RepI (s : ByteArray) (a : Re) (X O St : Nat → Bool) (lo k : Nat) (mo : Bool) : Prop where
  st : ∀ j, j ≤ s.size → (St j = true ↔ Ei (bytesN s) a (fun i => X i = true) k j)
  out : ∀ j, j ≤ s.size → (O j = true ↔ ∃ m, lo ≤ m ∧ m ≤ k ∧ Ei (bytesN s) a (fun i => X i = true) m j)
  fin : mo = false → ∃ k', k = k' + 1 ∧ ∀ j, j ≤ s.size → Ei (bytesN s) a (fun i => X i = true) k j → ∃ m, lo ≤ m ∧ m ≤ k' ∧ Ei (bytesN s) a (fun i => X i = true) m j
theorem RepI.next {s : ByteArray} {a : Re} {X O St St' : Nat → Bool} {lo k : Nat} {mo : Bool} (h : RepI s a X O St lo k mo) (hlo : lo ≤ 1) (hE : EnB s a St St') : RepI s a X (fun j => O j || St' j) St' lo (k + 1) (newB St' O (s.size + 1)) := by
  have h1 : ∀ j, j ≤ s.size → (St' j = true ↔ Ei (bytesN s) a (fun i => X i = true) (k + 1) j) := fun j hj => by
    rw [hE j hj]
    exact En.congr (fun i hi => h.st i (by rw [bytesN_len] at hi; exact hi))
  refine ⟨h1, fun j hj => ?_, fun hn => ⟨k, rfl, fun j hj he => ?_⟩⟩
  · rw [Bool.or_eq_true, h.out j hj, h1 j hj]
    constructor
    · rintro (⟨m, a1, a2, a3⟩ | h2)
      · exact ⟨m, a1, by omega, a3⟩
      · exact ⟨k + 1, by omega, Nat.le_refl _, h2⟩
    · rintro ⟨m, a1, a2, a3⟩
      by_cases e : m = k + 1
      · subst e; exact .inr a3
      · exact .inl ⟨m, a1, by omega, a3⟩
  · have h2 : ¬ (St' j = true ∧ O j = false) := fun hh => by
      have : newB St' O (s.size + 1) = true := by
        unfold newB
        rw [List.any_eq_true]
        exact ⟨j, List.mem_range.2 (by omega), by rw [hh.1, hh.2]; rfl⟩
      rw [hn] at this
      cases this
    have h3 := (h1 j hj).2 he
    have h4 : O j = true := by
      cases hO : O j with
      | true => rfl
      | false => exact absurd ⟨h3, hO⟩ h2
    obtain ⟨m, a1, a2, a3⟩ := (h.out j hj).1 h4
    exact ⟨m, a1, a2, a3⟩
theorem Ei_none {B : List Nat} {a : Re} {X : Nat → Prop} (h : ∀ j, ¬ Ei B a X 1 j) : ∀ m j, 1 ≤ m → ¬ Ei B a X m j := by
  intro m
  induction m with
  | zero => intro j h0; omega
  | succ m ih =>
    intro j _ he
    by_cases hm : m = 0
    · subst hm; exact h j he
    · obtain ⟨_, i, _, h3, _⟩ := he
      exact ih i (by omega) h3
theorem RepI.all {s : ByteArray} {a : Re} {X O St : Nat → Bool} {lo k : Nat} (h : RepI s a X O St lo k false) (hlo : lo ≤ 1) (j : Nat) (hj : j ≤ s.size) : O j = true ↔ ∃ m, lo ≤ m ∧ Ei (bytesN s) a (fun i => X i = true) m j := by
  rw [h.out j hj]
  constructor
  · rintro ⟨m, a1, _, a3⟩; exact ⟨m, a1, a3⟩
  · rintro ⟨m, a1, a3⟩
    obtain ⟨k', rfl, hf⟩ := h.fin rfl
    have hf' : ∀ j, Ei (bytesN s) a (fun i => X i = true) (k' + 1) j → ∃ m, lo ≤ m ∧ m ≤ k' ∧ Ei (bytesN s) a (fun i => X i = true) m j := fun j he => hf j (by have := Ei_le he; rw [bytesN_len] at this; exact this) he
    by_cases hlk : lo ≤ k'
    · obtain ⟨m', b1, b2, b3⟩ := Ei_shut hlk hf' m j a1 a3
      exact ⟨m', b1, by omega, b3⟩
    · obtain rfl : k' = 0 := by omega
      obtain rfl : lo = 1 := by omega
      exact absurd a3 (Ei_none (fun j he => by obtain ⟨m, c1, c2, _⟩ := hf' j he; omega) m j a1)
theorem RepI.less {s : ByteArray} {O St' : Nat → Bool} : 2 * (List.range (s.size + 1)).countP (fun j => !(O j || St' j)) + moreN (.bool (newB St' O (s.size + 1))) < 2 * (List.range (s.size + 1)).countP (fun j => !O j) + 1 := by
  cases hn : newB St' O (s.size + 1) with
  | false =>
    have := countP_le' (fun j => !O j) (fun j => !(O j || St' j)) (List.range (s.size + 1)) (fun x _ h => by simp at h; simp [h.1])
    simp only [moreN]
    omega
  | true =>
    unfold newB at hn
    rw [List.any_eq_true] at hn
    obtain ⟨x, hx, h⟩ := hn
    simp only [Bool.and_eq_true, Bool.not_eq_true'] at h
    have := countP_lt' (fun j => !O j) (fun j => !(O j || St' j)) (List.range (s.size + 1)) (fun x _ h => by simp at h; simp [h.1]) ⟨x, hx, by simp [h.2], by simp [h.1]⟩
    simp only [moreN]
    omega
theorem rep0 (s : ByteArray) (a : Re) (X : Nat → Bool) : RepI s a X X X 0 0 true := by
  refine ⟨fun j hj => ⟨fun h => ⟨by rw [bytesN_len]; exact hj, h⟩, fun h => h.2⟩, fun j hj => ⟨fun h => ⟨0, Nat.le_refl _, Nat.le_refl _, by rw [bytesN_len]; exact hj, h⟩, fun h => ?_⟩, fun h => by cases h⟩
  obtain ⟨m, _, h2, h3⟩ := h
  obtain rfl : m = 0 := by omega
  exact h3.2
theorem rep1 (s : ByteArray) (a : Re) (X : Nat → Bool) : RepI s a X (fun _ => false) X 1 0 true := by
  refine ⟨fun j hj => ⟨fun h => ⟨by rw [bytesN_len]; exact hj, h⟩, fun h => h.2⟩, fun j _ => ⟨fun h => by simp at h, fun h => ?_⟩, fun h => by cases h⟩
  obtain ⟨m, h1, h2, _⟩ := h
  omega
set_option maxHeartbeats 6400000 in
set_option maxRecDepth 100000 in
theorem ends_star (w0 : World) (s : ByteArray) (P : Nat → Prop) (S : Nat → Bool) (kv : Value) (x : List Value) (a : Re) (hk : KidsAt w0 P kv [x]) (hK : EndsK w0 s x a) (hs : s.size ≤ 900) : EndsK w0 s (nodeC 3 S kv) (.star a) := by
  intro w hb0 v X hv
  obtain ⟨ab, rfl, hX⟩ := hv
  obtain ⟨ka, kc, rfl, -, hkk⟩ := hk.at
  obtain ⟨b, o, rfl, hbl, hat⟩ := hkk (by simp)
  have hlen := hk.each x (List.mem_singleton.2 rfl)
  have hat0 := hat 0 (by simp)
  rw [Nat.zero_mul, Nat.add_zero] at hat0
  have HA0 : Hid (w0.rangeAt b o x) := Lib.hid hat0
  have HK := Lib.hid hK
  have HB0 := Lib.hid hb0
  clear hk hK hkk hat hat0 hb0
  dsimp only [List.length_singleton]
  obtain ⟨i0, hi, hz0, hz1, hz2⟩ := info_parts info_bool
  have HX := Lib.hid hX
  have HE := Lib.hid (Ez.new w (nodeC 3 S (.slice (some ⟨b, o, none⟩) 1 kc)) 148 4 (madeCells #[.bool false] (s.size + 1)))
  have HR := Lib.hid (row_new w (nodeC 3 S (.slice (some ⟨b, o, none⟩) 1 kc)).toArray 148 (s.size + 1))
  clear hX
  go_enter Tryz.func123, Tryz.ntmps123
  go_upto_region 2 with (first
    | ((with_reducible refine Great.wpList_boxTo rfl _ _ rfl _ rfl w.heap.size rfl (nodeC 3 S (.slice (some ⟨b, o, none⟩) 1 kc)).toArray ?hx ?_); (case hx => rfl))
    | ((with_reducible refine wpList_make_row _ rfl _ _ 185 rfl 4 i0 (.bool false) Tryz.underlying185 hi hz0 hz1 rfl .i64 .i64 (s.size + 1) ?hl ?hc ?hb ?h63 ?_); (case hl => rfl); (case hc => rfl); (case hb => rw [hz2]; omega); (case h63 => omega)))
  (try simp only [World.size_alloc])
  refine wp_forget3 (fun W => Ez w W (nodeC 3 S (.slice (some ⟨b, o, none⟩) 1 kc)) ∧ W.rowIs (w.heap.size + 1) 4 (s.size + 1) (fun j => .bool ((fun _ => false) j))) ⟨HE.out, HR.out⟩ (fun w1 hw1 => ?_)
  have H1 := Lib.hid hw1.1
  have HR1 := Lib.hid hw1.2
  have c0 := H1.out.cell (nodeC_0 _ _ _)
  clear hw1 HE HR
  have HX1 : Hid (BsAt w1 (.slice (some ⟨ab, 0, none⟩) (s.size + 1) (s.size + 1)) (s.size + 1) X) := Lib.hid ⟨ab, rfl, HX.out.of_block (H1.out.bl.block ab HX.out.lt)⟩
  have HO1 : Hid (BsAt w1 (.slice (some ⟨ab, 0, none⟩) (s.size + 1) (s.size + 1)) (s.size + 1) X) := Lib.hid HX1.out
  go_wp2
  go_loopw [7, 11, 12] (fun v7 v11 v12 wr => ∃ (k : Nat) (O St : Nat → Bool) (mo : Bool), v12 = .bool mo ∧ Hid (Ez w wr (nodeC 3 S (.slice (some ⟨b, o, none⟩) 1 kc))) ∧ Hid (BsAt wr v7 (s.size + 1) O) ∧ Hid (BsAt wr v11 (s.size + 1) St) ∧ Hid (RepI s a X O St 0 k mo)) (fun v7 _ v12 wr => 2 * cntF wr v7 (s.size + 1) + moreN v12)
  case atStart => exact ⟨0, X, X, true, rfl, H1, HO1, HX1, Lib.hid (rep0 s a X)⟩
  case round =>
    clear H1 HR1 HX1 HO1 c0
    obtain ⟨k, O, St, mo, rfl, HZ, HO, HSt, HI⟩ := hrel
    have HMS := Lib.hid HO.out.cnt
    cases mo with
    | false =>
      have HFIN : Hid (∀ j, j ≤ s.size → (O j = true ↔ ∃ m, 0 ≤ m ∧ Ei (bytesN s) a (fun i => X i = true) m j)) := Lib.hid (fun j hj => HI.out.all (by decide) j hj)
      clear HI HSt HK
      go_wp2
      go_ret
      refine ⟨_, O, rfl, HO.out, fun j hj => ?_, HZ.out.bl⟩
      rw [HFIN.out j hj]
      rw [En_star]; exact ⟨fun ⟨m, _, h⟩ => ⟨m, h⟩, fun ⟨m, h⟩ => ⟨m, Nat.zero_le _, h⟩⟩
    | true =>
      have q257 := HZ.out.cell (nodeC_kids 3 S (.slice (some ⟨b, o, none⟩) 1 kc))
      have hbw := HB0.out.trans (HZ.out.bl.mono HB0.out.size)
      have HAT := Lib.hid (range_later HA0.out hbw hbl)
      have ke := HK.out wr hbw u11 St HSt.out
      clear hbw
      go_wp2_with ((with_reducible refine wpList_loadN rfl _ rfl _ rfl b o ?hx x ?hc hlen ?_); (case hx => rfl); (case hc => exact HAT.out))
      refine ke.mono ?_
      rintro e w4 ⟨v', St', rfl, hY', hE', hb4⟩
      have HZ4 := Lib.hid (HZ.out.below hb4)
      have HO4 := Lib.hid (HO.out.later hb4)
      have HI2 := Lib.hid (HI.out.next (by decide) hE')
      have HS4 := Lib.hid hY'
      clear ke hY' hE' hb4 q257 HAT HZ HO HSt HI
      obtain ⟨sb, rfl, hsb⟩ := HS4.out
      obtain ⟨ob, hob, hobr⟩ := HO4.out
      have HSB := Lib.hid hsb
      have HOB := Lib.hid hobr
      clear hsb hobr
      subst hob
      go_wp2
      go_loopw [12, 13] (fun v12 v13 wr => ∃ i : Nat, v12 = .bool (newB St' O i) ∧ v13 = .int .i64 (i : Nat) ∧ i ≤ s.size + 1 ∧ wr = w4) (fun _ v _ => s.size + 2 - (intOf v).toNat)
      case atStart => exact ⟨0, rfl, rfl, Nat.zero_le _, rfl⟩
      case round =>
        obtain ⟨i, rfl, rfl, hi, rfl⟩ := hrel
        by_cases h : i < s.size + 1
        · have qs := HSB.out.cell h
          have qo := HOB.out.cell h
          have hi0 : (0 : Int) ≤ (i : Int) := by omega
          have hi1 : (i : Int) < ((s.size + 1 : Nat) : Int) := by omega
          have HNS := Lib.hid (newB_succ St' O i)
          generalize newB St' O i = N1 at *
          clear HI2 HK
          cases N1 with
          | true =>
            go_wp2
            go_roundw
            case rel => exact ⟨i + 1, by rw [HNS.out]; rfl, by go_num, by omega, by first | rfl | trivial⟩
            case measure => (simp [intOf]; try omega)
          | false =>
            cases hS1 : St' i with
            | false =>
              rw [hS1] at qs
              go_wp2
              go_roundw
              case rel => exact ⟨i + 1, by rw [HNS.out, hS1]; rfl, by go_num, by omega, by first | rfl | trivial⟩
              case measure => (simp [intOf]; try omega)
            | true =>
              rw [hS1] at qs
              cases hO1 : O i with
              | false =>
                rw [hO1] at qo
                go_wp2
                go_roundw
                case rel => exact ⟨i + 1, by rw [HNS.out, hS1, hO1]; rfl, by go_num, by omega, by first | rfl | trivial⟩
                case measure => (simp [intOf]; try omega)
              | true =>
                rw [hO1] at qo
                go_wp2
                go_roundw
                case rel => exact ⟨i + 1, by rw [HNS.out, hS1, hO1]; rfl, by go_num, by omega, by first | rfl | trivial⟩
                case measure => (simp [intOf]; try omega)
        · obtain rfl : i = s.size + 1 := by omega
          have hi1 : ¬ ((s.size + 1 : Nat) : Int) < ((s.size + 1 : Nat) : Int) := by omega
          have kb := both_any (s.size + 1) O St' _ _ wr HO4.out HS4.out (by omega)
          clear HSB HOB HK
          obtain ⟨N1, hN1⟩ : ∃ N1, newB St' O (s.size + 1) = N1 := ⟨_, rfl⟩
          have HN1 := Lib.hid hN1
          rw [hN1]
          clear hN1
          go_wp2_with fail
          refine kb.mono ?_
          rintro e w5 ⟨v2, rfl, hY2, hb5⟩
          have HZ5 := Lib.hid (HZ4.out.below hb5)
          have HO5 := Lib.hid hY2
          have HS5 := Lib.hid (HS4.out.later hb5)
          clear kb hY2 hb5
          go_wp2
          go_roundw
          case rel => exact ⟨k + 1, fun j => O j || St' j, St', N1, rfl, HZ5, HO5, HS5, Lib.hid (by have := HI2.out; rwa [HN1.out] at this)⟩
          case measure =>
            rw [HO5.out.cnt, HMS.out, ← HN1.out]
            exact RepI.less
set_option maxHeartbeats 6400000 in
set_option maxRecDepth 100000 in
theorem ends_plus (w0 : World) (s : ByteArray) (P : Nat → Prop) (S : Nat → Bool) (kv : Value) (x : List Value) (a : Re) (hk : KidsAt w0 P kv [x]) (hK : EndsK w0 s x a) (hs : s.size ≤ 900) : EndsK w0 s (nodeC 4 S kv) (.plus a) := by
  intro w hb0 v X hv
  obtain ⟨ab, rfl, hX⟩ := hv
  obtain ⟨ka, kc, rfl, -, hkk⟩ := hk.at
  obtain ⟨b, o, rfl, hbl, hat⟩ := hkk (by simp)
  have hlen := hk.each x (List.mem_singleton.2 rfl)
  have hat0 := hat 0 (by simp)
  rw [Nat.zero_mul, Nat.add_zero] at hat0
  have HA0 : Hid (w0.rangeAt b o x) := Lib.hid hat0
  have HK := Lib.hid hK
  have HB0 := Lib.hid hb0
  clear hk hK hkk hat hat0 hb0
  dsimp only [List.length_singleton]
  obtain ⟨i0, hi, hz0, hz1, hz2⟩ := info_parts info_bool
  have HX := Lib.hid hX
  have HE := Lib.hid (Ez.new w (nodeC 4 S (.slice (some ⟨b, o, none⟩) 1 kc)) 148 4 (madeCells #[.bool false] (s.size + 1)))
  have HR := Lib.hid (row_new w (nodeC 4 S (.slice (some ⟨b, o, none⟩) 1 kc)).toArray 148 (s.size + 1))
  clear hX
  go_enter Tryz.func123, Tryz.ntmps123
  go_upto_region 2 with (first
    | ((with_reducible refine Great.wpList_boxTo rfl _ _ rfl _ rfl w.heap.size rfl (nodeC 4 S (.slice (some ⟨b, o, none⟩) 1 kc)).toArray ?hx ?_); (case hx => rfl))
    | ((with_reducible refine wpList_make_row _ rfl _ _ 185 rfl 4 i0 (.bool false) Tryz.underlying185 hi hz0 hz1 rfl .i64 .i64 (s.size + 1) ?hl ?hc ?hb ?h63 ?_); (case hl => rfl); (case hc => rfl); (case hb => rw [hz2]; omega); (case h63 => omega)))
  (try simp only [World.size_alloc])
  refine wp_forget3 (fun W => Ez w W (nodeC 4 S (.slice (some ⟨b, o, none⟩) 1 kc)) ∧ W.rowIs (w.heap.size + 1) 4 (s.size + 1) (fun j => .bool ((fun _ => false) j))) ⟨HE.out, HR.out⟩ (fun w1 hw1 => ?_)
  have H1 := Lib.hid hw1.1
  have HR1 := Lib.hid hw1.2
  have c0 := H1.out.cell (nodeC_0 _ _ _)
  clear hw1 HE HR
  have HX1 : Hid (BsAt w1 (.slice (some ⟨ab, 0, none⟩) (s.size + 1) (s.size + 1)) (s.size + 1) X) := Lib.hid ⟨ab, rfl, HX.out.of_block (H1.out.bl.block ab HX.out.lt)⟩
  have HO1 : Hid (BsAt w1 (.slice (some ⟨w.heap.size + 1, 0, none⟩) (s.size + 1) (s.size + 1)) (s.size + 1) (fun _ => false)) := Lib.hid ⟨_, rfl, HR1.out⟩
  go_wp2
  go_loopw [7, 11, 12] (fun v7 v11 v12 wr => ∃ (k : Nat) (O St : Nat → Bool) (mo : Bool), v12 = .bool mo ∧ Hid (Ez w wr (nodeC 4 S (.slice (some ⟨b, o, none⟩) 1 kc))) ∧ Hid (BsAt wr v7 (s.size + 1) O) ∧ Hid (BsAt wr v11 (s.size + 1) St) ∧ Hid (RepI s a X O St 1 k mo)) (fun v7 _ v12 wr => 2 * cntF wr v7 (s.size + 1) + moreN v12)
  case atStart => exact ⟨0, (fun _ => false), X, true, rfl, H1, HO1, HX1, Lib.hid (rep1 s a X)⟩
  case round =>
    clear H1 HR1 HX1 HO1 c0
    obtain ⟨k, O, St, mo, rfl, HZ, HO, HSt, HI⟩ := hrel
    have HMS := Lib.hid HO.out.cnt
    cases mo with
    | false =>
      have HFIN : Hid (∀ j, j ≤ s.size → (O j = true ↔ ∃ m, 1 ≤ m ∧ Ei (bytesN s) a (fun i => X i = true) m j)) := Lib.hid (fun j hj => HI.out.all (by decide) j hj)
      clear HI HSt HK
      go_wp2
      go_ret
      refine ⟨_, O, rfl, HO.out, fun j hj => ?_, HZ.out.bl⟩
      rw [HFIN.out j hj]
      rw [En_plus]; exact ⟨fun ⟨m, h0, h⟩ => ⟨m - 1, by rwa [show m - 1 + 1 = m by omega]⟩, fun ⟨m, h⟩ => ⟨m + 1, by omega, h⟩⟩
    | true =>
      have q257 := HZ.out.cell (nodeC_kids 4 S (.slice (some ⟨b, o, none⟩) 1 kc))
      have hbw := HB0.out.trans (HZ.out.bl.mono HB0.out.size)
      have HAT := Lib.hid (range_later HA0.out hbw hbl)
      have ke := HK.out wr hbw u11 St HSt.out
      clear hbw
      go_wp2_with ((with_reducible refine wpList_loadN rfl _ rfl _ rfl b o ?hx x ?hc hlen ?_); (case hx => rfl); (case hc => exact HAT.out))
      refine ke.mono ?_
      rintro e w4 ⟨v', St', rfl, hY', hE', hb4⟩
      have HZ4 := Lib.hid (HZ.out.below hb4)
      have HO4 := Lib.hid (HO.out.later hb4)
      have HI2 := Lib.hid (HI.out.next (by decide) hE')
      have HS4 := Lib.hid hY'
      clear ke hY' hE' hb4 q257 HAT HZ HO HSt HI
      obtain ⟨sb, rfl, hsb⟩ := HS4.out
      obtain ⟨ob, hob, hobr⟩ := HO4.out
      have HSB := Lib.hid hsb
      have HOB := Lib.hid hobr
      clear hsb hobr
      subst hob
      go_wp2
      go_loopw [12, 13] (fun v12 v13 wr => ∃ i : Nat, v12 = .bool (newB St' O i) ∧ v13 = .int .i64 (i : Nat) ∧ i ≤ s.size + 1 ∧ wr = w4) (fun _ v _ => s.size + 2 - (intOf v).toNat)
      case atStart => exact ⟨0, rfl, rfl, Nat.zero_le _, rfl⟩
      case round =>
        obtain ⟨i, rfl, rfl, hi, rfl⟩ := hrel
        by_cases h : i < s.size + 1
        · have qs := HSB.out.cell h
          have qo := HOB.out.cell h
          have hi0 : (0 : Int) ≤ (i : Int) := by omega
          have hi1 : (i : Int) < ((s.size + 1 : Nat) : Int) := by omega
          have HNS := Lib.hid (newB_succ St' O i)
          generalize newB St' O i = N1 at *
          clear HI2 HK
          cases N1 with
          | true =>
            go_wp2
            go_roundw
            case rel => exact ⟨i + 1, by rw [HNS.out]; rfl, by go_num, by omega, by first | rfl | trivial⟩
            case measure => (simp [intOf]; try omega)
          | false =>
            cases hS1 : St' i with
            | false =>
              rw [hS1] at qs
              go_wp2
              go_roundw
              case rel => exact ⟨i + 1, by rw [HNS.out, hS1]; rfl, by go_num, by omega, by first | rfl | trivial⟩
              case measure => (simp [intOf]; try omega)
            | true =>
              rw [hS1] at qs
              cases hO1 : O i with
              | false =>
                rw [hO1] at qo
                go_wp2
                go_roundw
                case rel => exact ⟨i + 1, by rw [HNS.out, hS1, hO1]; rfl, by go_num, by omega, by first | rfl | trivial⟩
                case measure => (simp [intOf]; try omega)
              | true =>
                rw [hO1] at qo
                go_wp2
                go_roundw
                case rel => exact ⟨i + 1, by rw [HNS.out, hS1, hO1]; rfl, by go_num, by omega, by first | rfl | trivial⟩
                case measure => (simp [intOf]; try omega)
        · obtain rfl : i = s.size + 1 := by omega
          have hi1 : ¬ ((s.size + 1 : Nat) : Int) < ((s.size + 1 : Nat) : Int) := by omega
          have kb := both_any (s.size + 1) O St' _ _ wr HO4.out HS4.out (by omega)
          clear HSB HOB HK
          obtain ⟨N1, hN1⟩ : ∃ N1, newB St' O (s.size + 1) = N1 := ⟨_, rfl⟩
          have HN1 := Lib.hid hN1
          rw [hN1]
          clear hN1
          go_wp2_with fail
          refine kb.mono ?_
          rintro e w5 ⟨v2, rfl, hY2, hb5⟩
          have HZ5 := Lib.hid (HZ4.out.below hb5)
          have HO5 := Lib.hid hY2
          have HS5 := Lib.hid (HS4.out.later hb5)
          clear kb hY2 hb5
          go_wp2
          go_roundw
          case rel => exact ⟨k + 1, fun j => O j || St' j, St', N1, rfl, HZ5, HO5, HS5, Lib.hid (by have := HI2.out; rwa [HN1.out] at this)⟩
          case measure =>
            rw [HO5.out.cnt, HMS.out, ← HN1.out]
            exact RepI.less
end Go.Proofs.YtcfococinllcmaaGreat

/- The reference's ends of any tree; Fits: contracts. -/
namespace Go.Proofs.YtcfococinllcmaaGreat
open Go.RowKit

def EndsM (w : World) (s : ByteArray) (md : Nat) (l : List (List Value)) (a : Re) : Prop :=
  if md = 0 then ∀ x, l = [x] → EndsK w s x a
  else if md = 1 then ∃ bs : List Re, bs.length = l.length ∧ a = bs.foldl Re.alt .no ∧ ∀ i (h : i < l.length) (h2 : i < bs.length), EndsK w s l[i] bs[i]
  else ∃ bs : List Re, bs.length = l.length ∧ a = bs.foldl Re.cat .eps ∧ ∀ i (h : i < l.length) (h2 : i < bs.length), EndsK w s l[i] bs[i]
theorem ends_snoc {w : World} {s : ByteArray} {l : List (List Value)} {bs : List Re} {x : List Value} {b : Re} (h1 : bs.length = l.length) (h3 : ∀ i (h : i < l.length) (h2 : i < bs.length), EndsK w s l[i] bs[i]) (hx : EndsK w s x b) :
    ∀ i (h : i < (l ++ [x]).length) (h2 : i < (bs ++ [b]).length), EndsK w s (l ++ [x])[i] (bs ++ [b])[i] := by
  intro i h h2
  by_cases hi : i < l.length
  · rw [List.getElem_append_left hi, List.getElem_append_left (by omega)]
    exact h3 i hi (by omega)
  · have e : i = l.length := by rw [List.length_append, List.length_singleton] at h; omega
    subst e
    have e1 : (l ++ [x])[l.length] = x := by simp
    have e2 : (bs ++ [b])[l.length]'h2 = b := by
      have : (bs ++ [b])[bs.length]'(by simp) = b := by simp
      simp only [← h1]
      exact this
    rw [e1, e2]
    exact hx
theorem ends_all {w : World} {P : Nat → Prop} {md : Nat} {l : List (List Value)} {a : Re} (h : NA w P md l a) (s : ByteArray) (hs : s.size ≤ 900) : EndsM w s md l a := by
  induction h with
  | set S kv =>
    unfold EndsM
    rw [if_pos rfl]
    intro x hx
    cases hx
    exact ends_set w s S kv hs
  | alts h1 h2 ih =>
    unfold EndsM at ih ⊢
    rw [if_neg (by decide), if_pos rfl] at ih
    rw [if_pos rfl]
    obtain ⟨bs, e1, rfl, e3⟩ := ih
    intro x hx
    cases hx
    exact ends_alts w s _ _ _ _ bs ⟨h2, e1, e3⟩ hs
  | row h1 h2 ih =>
    unfold EndsM at ih ⊢
    rw [if_neg (by decide), if_neg (by decide)] at ih
    rw [if_pos rfl]
    obtain ⟨bs, e1, rfl, e3⟩ := ih
    intro x hx
    cases hx
    exact ends_row w s _ _ _ _ bs ⟨h2, e1, e3⟩ hs
  | star h1 h2 ih =>
    unfold EndsM at ih ⊢
    rw [if_pos rfl] at ih ⊢
    intro x hx
    cases hx
    exact ends_star w s _ _ _ _ _ h2 (ih _ rfl) hs
  | plus h1 h2 ih =>
    unfold EndsM at ih ⊢
    rw [if_pos rfl] at ih ⊢
    intro x hx
    cases hx
    exact ends_plus w s _ _ _ _ _ h2 (ih _ rfl) hs
  | opt h1 h2 ih =>
    unfold EndsM at ih ⊢
    rw [if_pos rfl] at ih ⊢
    intro x hx
    cases hx
    exact ends_opt w s _ _ _ _ _ h2 (ih _ rfl) hs
  | a0 =>
    unfold EndsM
    rw [if_neg (by decide), if_pos rfl]
    exact ⟨[], rfl, rfl, fun i h => absurd h (by simp)⟩
  | a1 h1 h2 ih1 ih2 =>
    unfold EndsM at ih1 ih2 ⊢
    rw [if_neg (by decide), if_pos rfl] at ih1 ⊢
    rw [if_pos rfl] at ih2
    obtain ⟨bs, e1, rfl, e3⟩ := ih1
    exact ⟨bs ++ [_], by simp [e1], by rw [List.foldl_append]; rfl, ends_snoc e1 e3 (ih2 _ rfl)⟩
  | r0 =>
    unfold EndsM
    rw [if_neg (by decide), if_neg (by decide)]
    exact ⟨[], rfl, rfl, fun i h => absurd h (by simp)⟩
  | r1 h1 h2 ih1 ih2 =>
    unfold EndsM at ih1 ih2 ⊢
    rw [if_neg (by decide), if_neg (by decide)] at ih1 ⊢
    rw [if_pos rfl] at ih2
    obtain ⟨bs, e1, rfl, e3⟩ := ih1
    exact ⟨bs ++ [_], by simp [e1], by rw [List.foldl_append]; rfl, ends_snoc e1 e3 (ih2 _ rfl)⟩
theorem ends_is {w : World} {P : Nat → Prop} {x : List Value} {a : Re} (h : NA w P 0 [x] a) (s : ByteArray) (hs : s.size ≤ 900) : EndsK w s x a := by
  have := ends_all h s hs
  unfold EndsM at this
  rw [if_pos rfl] at this
  exact this x rfl
theorem En_whole (s : ByteArray) (a : Re) (X : Nat → Bool) (hX : ∀ i, X i = decide (i = 0)) : En (bytesN s) a (fun i => X i = true) s.size ↔ Lr a (bytesN s) := by
  have e : sl (bytesN s) 0 s.size = bytesN s := by
    unfold sl
    rw [List.drop_zero, Nat.sub_zero, List.take_of_length_le (by rw [bytesN_len]; exact Nat.le_refl _)]
  constructor
  · rintro ⟨_, i, _, h2, h3⟩
    rw [hX] at h2
    obtain rfl : i = 0 := of_decide_eq_true h2
    rwa [e] at h3
  · intro h
    exact ⟨by rw [bytesN_len]; exact Nat.le_refl _, 0, Nat.zero_le _, by show X 0 = true; rw [hX]; rfl, by rw [e]; exact h⟩
set_option maxHeartbeats 3200000 in
set_option maxRecDepth 100000 in
theorem rtree_any (w : World) (P : Nat → Prop) (x : List Value) (a : Re) (s : ByteArray) (h : NA w P 0 [x] a) (hl : x.length = 258) (hs : s.size ≤ 900) :
    Calls Tryz.prog 99 #[.agg x.toArray, .string s] w fun e w' => ∃ b : Bool, e = .returned (.bool b) ∧ (b = true ↔ Lr a (bytesN s)) ∧ Below w.heap.size w w' := by
  have hk := ends_is h s hs
  obtain ⟨i0, hi, hz0, hz1, hz2⟩ := info_parts info_bool
  have HK := Lib.hid hk
  have HE := Lib.hid (Ez.new w x 148 4 (madeCells #[.bool false] (s.size + 1)))
  have HR := Lib.hid (row_new w x.toArray 148 (s.size + 1))
  clear hk h
  go_enter Tryz.func99, Tryz.ntmps99
  go_upto_region 2 with (first
    | ((with_reducible refine Great.wpList_boxTo rfl _ _ rfl _ rfl w.heap.size rfl x.toArray ?hx ?_); (case hx => rfl))
    | ((with_reducible refine wpList_make_row _ rfl _ _ 185 rfl 4 i0 (.bool false) Tryz.underlying185 hi hz0 hz1 rfl .i64 .i64 (s.size + 1) ?hl ?hc ?hb ?h63 ?_); (case hl => rfl); (case hc => rfl); (case hb => rw [hz2]; omega); (case h63 => omega)))
  (try simp only [World.size_alloc])
  refine wp_forget3 (fun W => Ez w W x ∧ W.rowIs (w.heap.size + 1) 4 (s.size + 1) (fun j => .bool ((fun _ => false) j))) ⟨HE.out, HR.out⟩ (fun w1 hw1 => ?_)
  have H1 := Lib.hid hw1.1
  have HR1 := Lib.hid hw1.2
  have qo := HR1.out.cell (show 0 < s.size + 1 by omega)
  have fo := HR1.out.frozen 0
  clear hw1 HE HR
  go_upto_region 3 with fail
  refine wp_forget3 (fun W => Ez w W x ∧ BsAt W (.slice (some ⟨w.heap.size + 1, 0, none⟩) (s.size + 1) (s.size + 1)) (s.size + 1) (fun j => decide (j = 0))) ⟨H1.out.set (by omega) 0 (.bool true), _, rfl, (bs_put HR1.out 0 true).congr (fun j _ => by by_cases e : j = 0 <;> simp [e])⟩ (fun w2 hw2 => ?_)
  have H2 := Lib.hid hw2.1
  have HX2 := Lib.hid hw2.2
  clear hw2 H1 HR1 qo fo
  have ke := HK.out w2 H2.out.bl _ _ HX2.out
  go_wp2_with ((with_reducible refine wpList_loadN rfl _ rfl _ rfl w.heap.size 0 ?hx x ?hc hl ?_); (case hx => rfl); (case hc => exact H2.out.at_))
  refine ke.mono ?_
  rintro e w3 ⟨v', Y, rfl, ⟨sb, rfl, hsb⟩, hE, hb⟩
  have q := hsb.cell (show s.size < s.size + 1 by omega)
  have HF : Hid (Y s.size = true ↔ Lr a (bytesN s)) := Lib.hid ((hE s.size (Nat.le_refl _)).trans (En_whole s a _ (fun _ => rfl)))
  have HB := Lib.hid (H2.out.below hb).bl
  generalize Y s.size = y at *
  clear ke hE hb hsb H2 HX2 HK
  go_wp2
  go_ret
  exact ⟨y, rfl, HF.out, HB.out⟩
end Go.Proofs.YtcfococinllcmaaGreat

/- lychgateref06 on matchers: Fine, Value, Fits, All: contracts. -/
namespace Go.Proofs.YtcfococinllcmaaGreat
open Go.RowKit

theorem exec_loadN {o : Oper} {a : Act} {w : World} (x : Operand) (ho : o.op = .load 148 x) (b i : Nat) (hx : a.eval x = .pointer (some ⟨b, i, none⟩)) (cs : List Value) (hc : w.rangeAt b i cs) (hl : cs.length = 258) : (execOp a.eval o).run Tryz.prog w = .ok (.value (.agg cs.toArray)) w := by
  unfold execOp
  simp only [ho, hx]
  rw [Sem.run_bind, run_loadAt_mid w b i 148 cs _ hc Tryz.underlying148 rfl (by rw [hl]; exact node_size)]
  rfl
set_option maxHeartbeats 1600000 in
set_option maxRecDepth 100000 in
theorem fine6_any (m : Mt) (w : World) (hf : MtFit m) : Calls Tryz.prog 54 #[.agg #[.string m.nm, .int .i64 m.op, .string m.val]] w fun e w' => e = .returned (.bool (fineM m)) ∧ Below w.heap.size w w' := by
  have kr := fun W => rread_any m.val W
  have hz := hf.2
  have HF : Hid (fineM m = (nameL (B m.nm) && decide (0 ≤ m.op) && decide (m.op ≤ 3) && decide (m.val.size ≤ 200) && (decide (m.op < 2) || decide (errM m.val = 0)))) := Lib.hid rfl
  have kn0 := refName.name_any m.nm (w.alloc (.cells #[.string m.nm, .int .i64 m.op, .string m.val] 108)) hf.1
  obtain ⟨nm, op, val⟩ := m
  dsimp only at *
  generalize fineM ⟨nm, op, val⟩ = R at *
  generalize nameL (B nm) = N at *
  have HR := Lib.hid kr
  unfold maxLen at hz
  have hbx := box3m (Below.refl _ (w.alloc (.cells #[.string nm, .int .i64 op, .string val] 108)))
  clear hf kr
  go_enter Tryz.func54, Tryz.ntmps54
  go_wp2_with fail
  refine kn0.mono ?_
  rintro e w1 ⟨rfl, hw1⟩
  obtain ⟨⟨x0, x1, x2⟩, hlt, hB1⟩ := hbx
  rw [hw1] at x0 x1 x2 hlt hB1
  have HB := Lib.hid hB1
  clear kn0 hw1 hB1
  cases N with
  | false =>
    go_wp2
    go_ret
    exact ⟨by rw [HF.out]; rfl, HB.out⟩
  | true =>
    by_cases h0 : op < 0
    · rw [show decide (0 ≤ op) = false from decide_eq_false (by omega)] at HF
      go_wp2
      go_ret
      exact ⟨by rw [HF.out]; rfl, HB.out⟩
    · rw [show decide (0 ≤ op) = true from decide_eq_true (by omega)] at HF
      by_cases h3 : 3 < op
      · rw [show decide (op ≤ 3) = false from decide_eq_false (by omega)] at HF
        go_wp2
        go_ret
        exact ⟨by rw [HF.out]; rfl, HB.out⟩
      · rw [show decide (op ≤ 3) = true from decide_eq_true (by omega)] at HF
        by_cases hs : 200 < val.size
        · rw [show decide (val.size ≤ 200) = false from decide_eq_false (by omega)] at HF
          have hsi : (200 : Int) < (val.size : Int) := by omega
          go_wp2
          go_ret
          exact ⟨by rw [HF.out]; rfl, HB.out⟩
        · rw [show decide (val.size ≤ 200) = true from decide_eq_true (by omega)] at HF
          have hsi : (val.size : Int) ≤ 200 := by omega
          have kr := HR.out w1
          have hde : Hid ((errM val == 0) = decide (errM val = 0)) := Lib.hid (by rw [Bool.eq_iff_iff]; simp)
          generalize errM val = E at *
          go_wp2_with fail
          refine kr.mono ?_
          rintro e w2 ⟨cs, rfl, hl, hone, -, hb2⟩
          have hlt2 := hb2.size
          have y1 := keep_cell x1 hb2 hlt
          have HBN : Hid (Below w.heap.size w ((w2.alloc (.cells (zeroN 0) 148)).setCells w2.heap.size 0 cs)) := Lib.hid (by
            have h1 := HB.out.trans (hb2.mono HB.out.size)
            exact below_puts (h1.trans ((alloc_below w2 _).mono h1.size)) (by have := h1.size; omega) _)
          have HY1 : Hid (((w2.alloc (.cells (zeroN 0) 148)).setCells w2.heap.size 0 cs).cell? ⟨w.heap.size, 1, none⟩ = some (.int .i64 op)) := Lib.hid ((World.cell?_of_block (a := ⟨w.heap.size, 1, none⟩) (heap_setCells _ _ _ (by show w.heap.size ≠ w2.heap.size; omega) _ _)).trans (keep_cell y1 (alloc_below w2 _) (by omega)))
          have HTH := Lib.hid (there_new w2 0 148)
          clear kr x0 x1 x2 y1
          go_upto_region 4 with (first
            | (with_reducible refine wpList_allocN rfl rfl _ rfl w2.heap.size rfl ?_)
            | ((with_reducible refine wpList_storeN rfl _ _ rfl _ rfl w2.heap.size 0 cs ?hx ?hy ?ht hl hone ?_); (case hx => rfl); (case hy => rfl); (case ht => exact HTH.out)))
          (try simp only [Act.put, List.setIfInBounds_toArray, List.set_cons_zero, List.set_cons_succ])
          refine wp_forget3 (fun W => W.cell? ⟨w.heap.size, 1, none⟩ = some (.int .i64 op) ∧ Below w.heap.size w W) ⟨HY1.out, HBN.out⟩ (fun w3 hw3 => ?_)
          obtain ⟨y1, hB3⟩ := hw3
          have HB3 := Lib.hid hB3
          clear HBN HY1 HTH hB3 hb2
          by_cases h2 : op < 2
          · rw [show decide (op < 2) = true from decide_eq_true h2] at HF
            go_wp2
            go_ret
            exact ⟨by rw [HF.out]; rfl, HB3.out⟩
          · rw [show decide (op < 2) = false from decide_eq_false h2] at HF
            go_wp2
            go_ret
            exact ⟨by rw [HF.out, ← hde.out]; first | rfl | (simp), HB3.out⟩
/-- what stands ahead has not that name -/
theorem valueF_at {l : List Fld} {n : ByteArray} {i : Nat} (h : i < l.length) (hb : ∀ j (hj : j < l.length), j < i → (l[j].1.toList == n.toList) = false) (he : (l[i].1.toList == n.toList) = true) : valueF l n = l[i].2 := by
  unfold valueF
  have : (l.find? fun f => f.1.toList == n.toList) = some l[i] := by
    rw [List.find?_eq_some_iff_getElem]
    exact ⟨he, i, h, rfl, fun j hj => by rw [hb j (by omega) hj]; rfl⟩
  rw [this]
theorem valueF_no {l : List Fld} {n : ByteArray} (hb : ∀ j (hj : j < l.length), (l[j].1.toList == n.toList) = false) : valueF l n = ⟨#[]⟩ := by
  unfold valueF
  have : (l.find? fun f => f.1.toList == n.toList) = none := by
    rw [List.find?_eq_none]
    intro x hx
    obtain ⟨j, hj, rfl⟩ := List.getElem_of_mem hx
    rw [hb j hj]
    decide
  rw [this]
set_option maxHeartbeats 1600000 in
set_option maxRecDepth 100000 in
theorem val6_any (l : List Fld) (n : ByteArray) (w : World) (v : Value) (hv : FldsAt w v l) (hl : l.length ≤ 1000000) :
    Calls Tryz.prog 98 #[v, .string n] w fun e w' => e = .returned (.string (valueF l n)) ∧ Below w.heap.size w w' := by
  obtain ⟨a, c, rfl, hc, hr⟩ := RdAt.shape hv
  have HR := Lib.hid hr
  clear hr hv
  go_enter Tryz.func98, Tryz.ntmps98
  go_wp2
  go_loopw [5] (fun i wr => ∃ k : Nat, k ≤ l.length ∧ i = .int .i64 (k : Nat) ∧ Hid (∀ j (hj : j < l.length), j < k → (l[j].1.toList == n.toList) = false) ∧ Below w.heap.size w wr) (fun i _ => l.length + 1 - (intOf i).toNat)
  case atStart => exact ⟨0, Nat.zero_le _, rfl, Lib.hid (fun j _ hj => absurd hj (Nat.not_lt_zero j)), Below.refl _ _⟩
  case round =>
    obtain ⟨k, hk, rfl, HT, hbr⟩ := hrel
    by_cases hkl : k < l.length
    · obtain ⟨b, o, rfl, hb, hcell⟩ := HR.out (by omega)
      have HV := Lib.hid (fun he => valueF_at (n := n) hkl HT.out he)
      have HNO : Hid ((l[k].1.toList == n.toList) = false → ∀ j (hj : j < l.length), j < k + 1 → (l[j].1.toList == n.toList) = false) := Lib.hid (fun he j hj h2 => by
        by_cases e : j = k
        · subst e; exact he
        · exact HT.out j hj (by omega))
      obtain ⟨x, hxe⟩ : ∃ x, l[k].1 = x := ⟨_, rfl⟩
      obtain ⟨y, hye⟩ : ∃ y, l[k].2 = y := ⟨_, rfl⟩
      obtain ⟨hx0, hy0⟩ := fldCells_at l k hkl
      rw [hxe] at hx0 HV HNO
      rw [hye] at hy0 HV
      have a0 : wr.cell? ⟨b, o + k * 2, none⟩ = some (.string x) := keep_cell (hcell _ _ hx0) hbr hb
      have a1 : wr.cell? ⟨b, o + k * 2 + 1, none⟩ = some (.string y) := keep_cell (by have := hcell _ _ hy0; rwa [← Nat.add_assoc] at this) hbr hb
      have hi0 : (0 : Int) ≤ (k : Int) := by omega
      have hi1 : (k : Int) < (l.length : Int) := by omega
      have HBR := Lib.hid hbr
      clear hcell hx0 hy0 hbr hxe hye HT
      cases he : (x.toList == n.toList) with
      | true =>
        rw [he] at HV
        go_wp2
        go_ret
        exact ⟨by first | (rw [HV.out (by trivial)]; done) | (rw [HV.out (by trivial)]; rfl), HBR.out⟩
      | false =>
        rw [he] at HNO
        go_wp2
        go_roundw
        case rel => exact ⟨k + 1, by omega, by go_num, Lib.hid (HNO.out (by trivial)), HBR.out⟩
        case measure => (simp [intOf]; try omega)
    · have HV := Lib.hid (valueF_no (n := n) (fun j hj => HT.out j hj (by omega)))
      have hi1 : ¬ (k : Int) < (l.length : Int) := by omega
      have HBR := Lib.hid hbr
      clear HT hbr
      go_wp2
      go_ret
      exact ⟨by first | (rw [HV.out]; done) | (rw [HV.out]; rfl), HBR.out⟩
theorem opM_fit {m : Mt} {v : ByteArray} {b : Bool} (h0 : errM m.val = 0) (hb : b = true ↔ Lr (reT m.val) (bytesN v)) : b = fitB m.val v := by
  rw [Bool.eq_iff_iff, fitB_iff, fits_re, hb]
  exact ⟨fun h => ⟨h0, h⟩, fun h => h.2⟩
set_option maxHeartbeats 3200000 in
set_option maxRecDepth 100000 in
theorem fit6_any (l : List Fld) (m : Mt) (v : Value) (w : World) (hv : FldsAt w v l) (hl : l.length ≤ 1000000) (hvs : (valueF l m.nm).size ≤ 900) (hf : MtFit m) :
    Calls Tryz.prog 69 #[v, .agg #[.string m.nm, .int .i64 m.op, .string m.val]] w fun e w' => e = .returned (.bool (fitM l m)) ∧ Below w.heap.size w w' := by
  obtain ⟨fa, fc, rfl, _, _⟩ := RdAt.shape hv
  have hba := alloc_below w (.cells #[.string m.nm, .int .i64 m.op, .string m.val] 108)
  have kf := fine6_any m (w.alloc (.cells #[.string m.nm, .int .i64 m.op, .string m.val] 108)) hf
  have KV := Lib.hid (fun W (h : Below w.heap.size w W) => val6_any l m.nm W _ (hv.later h) hl)
  have KR := Lib.hid (fun W => rread_any m.val W)
  have HM : Hid (fitM l m = (fineM m && opM m (valueF l m.nm))) := Lib.hid rfl
  have HO : Hid (opM m (valueF l m.nm) = if m.op = 0 then (valueF l m.nm).toList == m.val.toList else if m.op = 1 then !((valueF l m.nm).toList == m.val.toList) else if m.op = 2 then fitB m.val (valueF l m.nm) else !(fitB m.val (valueF l m.nm))) := Lib.hid rfl
  have HFT := Lib.hid (fun h => @fineM_true m h)
  have HOF := Lib.hid (fun b h0 hb => @opM_fit m (valueF l m.nm) b h0 hb)
  have KF := Lib.hid (fun W P cs a h hl => rtree_any W P cs a (valueF l m.nm) h hl hvs)
  obtain ⟨nm, op, val⟩ := m
  dsimp only at *
  generalize fitM l ⟨nm, op, val⟩ = R at *
  generalize opM ⟨nm, op, val⟩ (valueF l nm) = OM at *
  generalize fineM ⟨nm, op, val⟩ = N at *
  generalize valueF l nm = vv at *
  generalize l.length = ln at *
  have HB0 := Lib.hid hba
  clear hv hba hf
  go_enter Tryz.func69, Tryz.ntmps69
  have hbx := box3m (Below.refl _ (w.alloc (.cells #[.string nm, .int .i64 op, .string val] 108)))
  obtain ⟨⟨x0, x1, x2⟩, hlt, -⟩ := hbx
  go_wp2_with fail
  refine kf.mono ?_
  rintro e w1 ⟨rfl, hb1⟩
  have hb0 := HB0.out.trans (hb1.mono HB0.out.size)
  have y0 := keep_cell x0 hb1 hlt
  have y1 := keep_cell x1 hb1 hlt
  have y2 := keep_cell x2 hb1 hlt
  have hlt1 : w.heap.size < w1.heap.size := by have := hb1.size; omega
  have HB1 := Lib.hid hb0
  clear kf hb1 x0 x1 x2 hlt hb0 HB0
  cases N with
  | false =>
    go_wp2
    go_ret
    exact ⟨by rw [HM.out]; rfl, HB1.out⟩
  | true =>
    obtain ⟨-, h0, h3, -, h5⟩ := HFT.out rfl
    have kv := KV.out w1 HB1.out
    clear HFT KV
    go_wp2_with fail
    refine kv.mono ?_
    rintro e w2 ⟨rfl, hb2⟩
    have z0 := keep_cell y0 hb2 hlt1
    have z1 := keep_cell y1 hb2 hlt1
    have z2 := keep_cell y2 hb2 hlt1
    have hlt2 : w.heap.size < w2.heap.size := by have := hb2.size; omega
    have HB2 := Lib.hid (HB1.out.trans (hb2.mono HB1.out.size))
    clear kv hb2 y0 y1 y2 hlt1 HB1
    by_cases h2 : op < 2
    · by_cases e0 : op = 0
      · subst e0
        have HO2 : Hid (OM = (vv.toList == val.toList)) := Lib.hid (by rw [HO.out, if_pos rfl])
        go_wp2
        go_ret
        exact ⟨by rw [HM.out, HO2.out, Bool.true_and]; rfl, HB2.out⟩
      · obtain rfl : op = 1 := by omega
        have HO2 : Hid (OM = !(vv.toList == val.toList)) := Lib.hid (by rw [HO.out, if_neg (by decide), if_pos rfl])
        go_wp2
        go_ret
        exact ⟨by rw [HM.out, HO2.out, Bool.true_and]; rfl, HB2.out⟩
    · have hE0 : errM val = 0 := by rcases h5 with h | h; (· exact absurd h h2); exact h
      have kr := KR.out w2
      have HE0 := Lib.hid hE0
      rw [hE0] at kr
      clear h5 hE0
      go_wp2_with fail
      refine kr.mono ?_
      rintro e w3 ⟨cs, rfl, hln, hone, hna, hb3⟩
      have hna := hna (by trivial)
      have u1 := keep_cell z1 hb3 hlt2
      have hlt3 : w.heap.size < w3.heap.size := by have := hb3.size; omega
      have hb3' := HB2.out.trans (hb3.mono HB2.out.size)
      have hnd : NdAt ((w3.alloc (.cells (zeroN 0) 148)).setCells w3.heap.size 0 cs) w3.heap.size cs := (NdAt.new w3 0 148).stored hln
      have HTH := Lib.hid (there_new w3 0 148)
      have HBN : Hid (Below w.heap.size w ((w3.alloc (.cells (zeroN 0) 148)).setCells w3.heap.size 0 cs)) := Lib.hid (below_puts (hb3'.trans ((alloc_below w3 _).mono hb3'.size)) (by omega) _)
      have HY1 : Hid (((w3.alloc (.cells (zeroN 0) 148)).setCells w3.heap.size 0 cs).cell? ⟨w.heap.size, 1, none⟩ = some (.int .i64 op)) := Lib.hid ((World.cell?_of_block (a := ⟨w.heap.size, 1, none⟩) (heap_setCells _ _ _ (by show w.heap.size ≠ w3.heap.size; omega) _ _)).trans (keep_cell u1 (alloc_below w3 _) (by omega)))
      have HNA : Hid (NA ((w3.alloc (.cells (zeroN 0) 148)).setCells w3.heap.size 0 cs) (fun q => w2.heap.size ≤ q ∧ q < w3.heap.size) 0 [cs] (reT val)) := Lib.hid ((hna.later (alloc_below w3 _)).keep (by rw [size_setCells]; exact Nat.le_refl _) (fun q hq _ => heap_setCells _ _ _ (by omega) _ _))
      have HND0 := Lib.hid hnd
      have HLN := Lib.hid hln
      have HON := Lib.hid hone
      clear kr z0 z1 z2 u1 hna hnd hb3 hb3' hln hone
      go_upto_region 7 with (first
        | (with_reducible refine wpList_allocN rfl rfl _ rfl w3.heap.size rfl ?_)
        | ((with_reducible refine wpList_storeN rfl _ _ rfl _ rfl w3.heap.size 0 cs ?hx ?hy ?ht HLN.out HON.out ?_); (case hx => rfl); (case hy => rfl); (case ht => exact HTH.out)))
      (try simp only [Act.put, List.setIfInBounds_toArray, List.set_cons_zero, List.set_cons_succ])
      have hsz4 : w.heap.size < ((w3.alloc (.cells (zeroN 0) 148)).setCells w3.heap.size 0 cs).heap.size := by rw [size_setCells, World.size_alloc]; omega
      clear HTH HB2
      generalize ((w3.alloc (.cells (zeroN 0) 148)).setCells w3.heap.size 0 cs) = w4 at *
      generalize w3.heap.size = nb at *
      have HND := HND0
      have HOP := HY1
      have HWL := Lib.hid hsz4
      clear HND0 HY1 hsz4
      rcases (show op = 2 ∨ op = 3 by omega) with rfl | rfl
      · have HO2 : Hid (OM = fitB val vv) := Lib.hid (by rw [HO.out]; rfl)
        refine wp_region_held_drew (S := (fun W => W.rangeAt nb 0 cs ∧ W.cell? ⟨w.heap.size, 1, none⟩ = some (.int .i64 2))) (by kernel_rfl) ⟨HND.out.at_, HOP.out⟩ (fun hHeld => ?_)
        refine held_take (i := 0) (v := ?_) rfl rfl (by kernel_rfl) (by kernel_rfl) (by kernel_rfl) (fun _ _ _ h => h) (by rfl) hHeld ?_ ?_
        rotate_left
        · rintro wh ⟨z0, -⟩
          refine exec_loadN (.tmp 6) ?_ nb 0 ?_ cs z0 HLN.out <;> rfl
        simp only [Act.put, List.setIfInBounds_toArray, List.set_cons_zero, List.set_cons_succ]
        refine held_take (i := 1) (v := ?_) rfl rfl (by kernel_rfl) (by kernel_rfl) (by kernel_rfl) (fun _ _ _ h => h) (by rfl) hHeld ?_ ?_
        rotate_left
        · rintro wh ⟨z0, z1⟩
          go_simp
          (try with_reducible rfl)
        simp only [Act.put, List.setIfInBounds_toArray, List.set_cons_zero, List.set_cons_succ]
        refine held_take (i := 3) (v := ?_) rfl rfl (by kernel_rfl) (by kernel_rfl) (by kernel_rfl) (fun _ _ _ h => h) (by rfl) hHeld ?_ ?_
        rotate_left
        · rintro wh ⟨z0, z1⟩
          go_simp
          (try with_reducible rfl)
        simp only [Act.put, List.setIfInBounds_toArray, List.set_cons_zero, List.set_cons_succ]
        refine held_take (i := 4) (v := ?_) rfl rfl (by kernel_rfl) (by kernel_rfl) (by kernel_rfl) (fun _ _ _ h => h) (by rfl) hHeld ?_ ?_
        rotate_left
        · rintro wh ⟨z0, z1⟩
          go_simp
          (try with_reducible rfl)
        simp only [Act.put, List.setIfInBounds_toArray, List.set_cons_zero, List.set_cons_succ]
        refine held_take (i := 5) (v := ?_) rfl rfl (by kernel_rfl) (by kernel_rfl) (by kernel_rfl) (fun _ _ _ h => h) (by rfl) hHeld ?_ ?_
        rotate_left
        · rintro wh ⟨z0, z1⟩
          go_simp
          (try with_reducible rfl)
        simp only [Act.put, List.setIfInBounds_toArray, List.set_cons_zero, List.set_cons_succ]
        refine held_step (i := 2) rfl (by kernel_rfl) (fun K hK => ?_)
        go_simp; refine (KF.out _ _ _ _ (HNA.out.later ((Below.refl w4.heap.size w4).drew)) HLN.out).mono ?_; rintro e w6 ⟨b, rfl, hb, hbl⟩; have HBB := Lib.hid hb; have HBL := Lib.hid (((Below.refl w4.heap.size w4).drew).trans (hbl.mono ((Below.refl w4.heap.size w4).drew).size)); clear hb hbl
        refine hK.out _ _ ⟨range_later HND.out.at_ HBL.out HND.out.lt, keep_cell HOP.out HBL.out HWL.out⟩ (fun hHeld => ?_)
        clear hK K
        (try simp only [Act.put, List.setIfInBounds_toArray])
        refine held_take (i := 6) (v := ?_) rfl rfl (by kernel_rfl) (by kernel_rfl) (by kernel_rfl) (fun _ _ _ h => h) (by rfl) hHeld ?_ ?_
        rotate_left
        · rintro wh ⟨z0, z1⟩
          go_simp
          (try with_reducible rfl)
        simp only [Act.put, List.setIfInBounds_toArray, List.set_cons_zero, List.set_cons_succ]
        refine held_take (i := 7) (v := ?_) rfl rfl (by kernel_rfl) (by kernel_rfl) (by kernel_rfl) (fun _ _ _ h => h) (by rfl) hHeld ?_ ?_
        rotate_left
        · rintro wh ⟨z0, z1⟩
          go_simp
          (try with_reducible rfl)
        simp only [Act.put, List.setIfInBounds_toArray, List.set_cons_zero, List.set_cons_succ]
        refine wpAnyH_done (by kernel_rfl) ?_ _
        have hb := HOF.out b HE0.out HBB.out
        clear HBB
        subst hb
        go_wp2
        go_ret
        exact ⟨by rw [HM.out, HO2.out]; cases fitB val vv <;> rfl, HBN.out.trans (HBL.out.mono HBN.out.size)⟩
      · have HO2 : Hid (OM = !(fitB val vv)) := Lib.hid (by rw [HO.out]; rfl)
        refine wp_region_held_drew (S := (fun W => W.rangeAt nb 0 cs ∧ W.cell? ⟨w.heap.size, 1, none⟩ = some (.int .i64 3))) (by kernel_rfl) ⟨HND.out.at_, HOP.out⟩ (fun hHeld => ?_)
        refine held_take (i := 0) (v := ?_) rfl rfl (by kernel_rfl) (by kernel_rfl) (by kernel_rfl) (fun _ _ _ h => h) (by rfl) hHeld ?_ ?_
        rotate_left
        · rintro wh ⟨z0, -⟩
          refine exec_loadN (.tmp 6) ?_ nb 0 ?_ cs z0 HLN.out <;> rfl
        simp only [Act.put, List.setIfInBounds_toArray, List.set_cons_zero, List.set_cons_succ]
        refine held_take (i := 1) (v := ?_) rfl rfl (by kernel_rfl) (by kernel_rfl) (by kernel_rfl) (fun _ _ _ h => h) (by rfl) hHeld ?_ ?_
        rotate_left
        · rintro wh ⟨z0, z1⟩
          go_simp
          (try with_reducible rfl)
        simp only [Act.put, List.setIfInBounds_toArray, List.set_cons_zero, List.set_cons_succ]
        refine held_take (i := 3) (v := ?_) rfl rfl (by kernel_rfl) (by kernel_rfl) (by kernel_rfl) (fun _ _ _ h => h) (by rfl) hHeld ?_ ?_
        rotate_left
        · rintro wh ⟨z0, z1⟩
          go_simp
          (try with_reducible rfl)
        simp only [Act.put, List.setIfInBounds_toArray, List.set_cons_zero, List.set_cons_succ]
        refine held_take (i := 4) (v := ?_) rfl rfl (by kernel_rfl) (by kernel_rfl) (by kernel_rfl) (fun _ _ _ h => h) (by rfl) hHeld ?_ ?_
        rotate_left
        · rintro wh ⟨z0, z1⟩
          go_simp
          (try with_reducible rfl)
        simp only [Act.put, List.setIfInBounds_toArray, List.set_cons_zero, List.set_cons_succ]
        refine held_take (i := 5) (v := ?_) rfl rfl (by kernel_rfl) (by kernel_rfl) (by kernel_rfl) (fun _ _ _ h => h) (by rfl) hHeld ?_ ?_
        rotate_left
        · rintro wh ⟨z0, z1⟩
          go_simp
          (try with_reducible rfl)
        simp only [Act.put, List.setIfInBounds_toArray, List.set_cons_zero, List.set_cons_succ]
        refine held_step (i := 2) rfl (by kernel_rfl) (fun K hK => ?_)
        go_simp; refine (KF.out _ _ _ _ (HNA.out.later ((Below.refl w4.heap.size w4).drew)) HLN.out).mono ?_; rintro e w6 ⟨b, rfl, hb, hbl⟩; have HBB := Lib.hid hb; have HBL := Lib.hid (((Below.refl w4.heap.size w4).drew).trans (hbl.mono ((Below.refl w4.heap.size w4).drew).size)); clear hb hbl
        refine hK.out _ _ ⟨range_later HND.out.at_ HBL.out HND.out.lt, keep_cell HOP.out HBL.out HWL.out⟩ (fun hHeld => ?_)
        clear hK K
        (try simp only [Act.put, List.setIfInBounds_toArray])
        refine held_take (i := 6) (v := ?_) rfl rfl (by kernel_rfl) (by kernel_rfl) (by kernel_rfl) (fun _ _ _ h => h) (by rfl) hHeld ?_ ?_
        rotate_left
        · rintro wh ⟨z0, z1⟩
          go_simp
          (try with_reducible rfl)
        simp only [Act.put, List.setIfInBounds_toArray, List.set_cons_zero, List.set_cons_succ]
        refine held_take (i := 7) (v := ?_) rfl rfl (by kernel_rfl) (by kernel_rfl) (by kernel_rfl) (fun _ _ _ h => h) (by rfl) hHeld ?_ ?_
        rotate_left
        · rintro wh ⟨z0, z1⟩
          go_simp
          (try with_reducible rfl)
        simp only [Act.put, List.setIfInBounds_toArray, List.set_cons_zero, List.set_cons_succ]
        refine wpAnyH_done (by kernel_rfl) ?_ _
        have hb := HOF.out b HE0.out HBB.out
        clear HBB
        subst hb
        go_wp2
        go_ret
        exact ⟨by rw [HM.out, HO2.out]; cases fitB val vv <;> rfl, HBN.out.trans (HBL.out.mono HBN.out.size)⟩
set_option maxHeartbeats 1600000 in
set_option maxRecDepth 100000 in
theorem all6_any (l : List Fld) (ms : List Mt) (v mv : Value) (w : World) (hv : FldsAt w v l) (hl : l.length ≤ 1000000) (hvs : ∀ m ∈ ms, (valueF l m.nm).size ≤ 900) (hm : MtsAt w mv ms) (hml : ms.length ≤ 1000000) (hmf : MtsFit ms) :
    Calls Tryz.prog 31 #[v, mv] w fun e w' => e = .returned (.bool (allM l ms)) ∧ Below w.heap.size w w' := by
  obtain ⟨ma, mc, rfl, _, hr⟩ := RdAt.shape hm
  obtain ⟨fa, fc, rfl, _, _⟩ := RdAt.shape hv
  have HR := Lib.hid hr
  have KF := Lib.hid (fun (m : Mt) (h : m ∈ ms) W (hW : Below w.heap.size w W) => fit6_any l m _ W (hv.later hW) hl (hvs m h) (hmf m h))
  clear hr hm hv hvs hmf
  go_enter Tryz.func31, Tryz.ntmps31
  go_wp2
  go_loopw [5] (fun i wr => ∃ k : Nat, k ≤ ms.length ∧ i = .int .i64 (k : Nat) ∧ Hid (allM l (ms.take k) = true) ∧ Hid (Below w.heap.size w wr)) (fun i _ => ms.length + 1 - (intOf i).toNat)
  case atStart => exact ⟨0, Nat.zero_le _, rfl, Lib.hid rfl, Lib.hid (Below.refl _ _)⟩
  case round =>
    obtain ⟨k, hk, rfl, HT, HBR⟩ := hrel
    by_cases hkl : k < ms.length
    · obtain ⟨b, o, rfl, hb, hcell⟩ := HR.out (by omega)
      have HTK : Hid (allM l (ms.take (k + 1)) = (allM l (ms.take k) && fitM l ms[k])) := Lib.hid (by unfold allM; rw [List.take_add_one, List.getElem?_eq_getElem hkl, List.all_append]; simp)
      have HNO : Hid (fitM l ms[k] = false → allM l ms = false) := Lib.hid (fun h => by unfold allM; rw [List.all_eq_false]; exact ⟨_, List.getElem_mem hkl, by rw [h]; decide⟩)
      have kf := KF.out ms[k] (List.getElem_mem hkl) wr HBR.out
      obtain ⟨h0, h1, h2⟩ := mtCells_at ms k hkl
      have a0 := keep_cell (hcell _ _ h0) HBR.out hb
      have a1 : wr.cell? ⟨b, o + k * 3 + 1, none⟩ = _ := keep_cell (by have := hcell _ _ h1; rwa [← Nat.add_assoc] at this) HBR.out hb
      have a2 : wr.cell? ⟨b, o + k * 3 + 2, none⟩ = _ := keep_cell (by have := hcell _ _ h2; rwa [← Nat.add_assoc] at this) HBR.out hb
      have hi0 : (0 : Int) ≤ (k : Int) := by omega
      have hi1 : (k : Int) < (ms.length : Int) := by omega
      clear hcell h0 h1 h2
      generalize ms[k] = m at *
      obtain ⟨nm, op, val⟩ := m
      dsimp only at *
      go_wp2_with fail
      refine kf.mono ?_
      rintro e w2 ⟨rfl, hb2⟩
      have HB2 := Lib.hid (HBR.out.trans (hb2.mono HBR.out.size))
      clear kf hb2 a0 a1 a2
      cases hfm : fitM l ⟨nm, op, val⟩ with
      | true =>
        rw [hfm] at HTK
        go_wp2
        go_roundw
        case rel => exact ⟨k + 1, by omega, by go_num, Lib.hid (by rw [HTK.out, HT.out]; rfl), HB2⟩
        case measure => (simp [intOf]; try omega)
      | false =>
        rw [hfm] at HNO
        go_wp2
        go_ret
        exact ⟨by first | (rw [HNO.out (by trivial)]; done) | (rw [HNO.out (by trivial)]; rfl), HB2.out⟩
    · obtain rfl : k = ms.length := by omega
      have hi1 : ¬ (ms.length : Int) < (ms.length : Int) := by omega
      have HA : Hid (allM l ms = true) := Lib.hid (by have := HT.out; rwa [List.take_length] at this)
      clear HT
      go_wp2
      go_ret
      exact ⟨by first | (rw [HA.out]; done) | (rw [HA.out]; rfl), HBR.out⟩
end Go.Proofs.YtcfococinllcmaaGreat

/- the law's short of chapter 10, and where its matchers lie: a contract. -/
namespace Go.Proofs.YtcfococinllcmaaGreat
open Go.RowKit

set_option maxHeartbeats 3200000 in
set_option maxRecDepth 100000 in
theorem short_own (o : SOp) (w : World) (hm : MtsAt w (SV o.s.mv) o.s.ms) (hl : o.s.ms.length ≤ maxLen) :
    Calls Tryz.prog 27 #[o.v] w fun e w' => ∃ mv : Option Addr × Nat × Nat, e = .returned (rsV o.sid { cutS o.s with mv := mv }) ∧ mv.1 = o.s.mv.1 ∧ MtsAt w (SV mv) (cutS o.s).ms ∧ Below w.heap.size w w' := by
  obtain ⟨kd, id, now, sid, ⟨xid, ⟨xa, xn, xc⟩, ms, fr, til, lv, c⟩⟩ := o
  dsimp only [SV] at hm hl
  obtain ⟨ma, mc, e, hmc, _⟩ := RdAt.shape hm
  rw [e] at hm
  simp only [Value.slice.injEq] at e
  obtain ⟨rfl, rfl, rfl⟩ := e
  obtain ⟨k, hk, hkl, hmin, _⟩ := min_cutS ms 14
  change min (ms.length : Int) 14 = _ at hmin
  have HMT := Lib.hid (mts_takeS hm k hk (none_ofS hm))
  have HKL := Lib.hid hkl
  have hkc : k ≤ xc := Nat.le_trans hk hmc
  have hkm : k < 9223372036854775807 := by unfold maxLen at hl; omega
  have hmn63 : ms.length ≤ 9223372036854775807 := by unfold maxLen at hl; omega
  unfold SOp.v rsV cutS
  dsimp only
  obtain ⟨W1, h1⟩ : ∃ z, w.alloc (.cells #[.int .i64 kd, .int .i64 id, .int .i64 now, .int .i64 sid, .slice xa ms.length xc, .int .i64 fr, .int .i64 til, .int .i64 lv, .int .u32 c] 60) = z := ⟨_, rfl⟩
  obtain ⟨W2, h2⟩ : ∃ z, W1.alloc (.cells #[.int .i64 0, .slice none 0 0, .int .i64 0, .int .i64 0, .int .i64 0, .int .u32 0] 58) = z := ⟨_, rfl⟩
  obtain ⟨W3, h3⟩ : ∃ z, W2.alloc (.cells #[.int .i64 sid, .slice xa ms.length xc, .int .i64 fr, .int .i64 til, .int .i64 lv, .int .u32 c] 58) = z := ⟨_, rfl⟩
  have s1 : W1.heap.size = w.heap.size + 1 := by rw [← h1, World.size_alloc]
  have s2 : W2.heap.size = w.heap.size + 1 + 1 := by rw [← h2, World.size_alloc, s1]
  have b1 : Below w.heap.size w W1 := by rw [← h1]; exact alloc_below _ _
  have b2 : Below W1.heap.size W1 W2 := by rw [← h2]; exact alloc_below _ _
  have b3 : Below W2.heap.size W2 W3 := by rw [← h3]; exact alloc_below _ _
  have g1 : Below (w.alloc (.cells #[.int .i64 kd, .int .i64 id, .int .i64 now, .int .i64 sid, .slice xa ms.length xc, .int .i64 fr, .int .i64 til, .int .i64 lv, .int .u32 c] 60)).heap.size (w.alloc (.cells #[.int .i64 kd, .int .i64 id, .int .i64 now, .int .i64 sid, .slice xa ms.length xc, .int .i64 fr, .int .i64 til, .int .i64 lv, .int .u32 c] 60)) W2 := by rw [h1]; exact b2
  have y3 := box_later g1 (i := 3) rfl
  have y4 := box_later g1 (i := 4) rfl
  have y5 := box_later g1 (i := 5) rfl
  have y6 := box_later g1 (i := 6) rfl
  have y7 := box_later g1 (i := 7) rfl
  have y8 := box_later g1 (i := 8) rfl
  have g2 : Below (W1.alloc (.cells #[.int .i64 0, .slice none 0 0, .int .i64 0, .int .i64 0, .int .i64 0, .int .u32 0] 58)).heap.size (W1.alloc (.cells #[.int .i64 0, .slice none 0 0, .int .i64 0, .int .i64 0, .int .i64 0, .int .u32 0] 58)) W3 := by rw [h2]; exact b3
  have z0 := box_later g2 (i := 0) rfl
  have z1 := box_later g2 (i := 1) rfl
  have z2 := box_later g2 (i := 2) rfl
  have z3 := box_later g2 (i := 3) rfl
  have z4 := box_later g2 (i := 4) rfl
  have z5 := box_later g2 (i := 5) rfl
  have t1 := box_there g2
  have hr3 := Below.refl (W2.alloc (.cells #[.int .i64 sid, .slice xa ms.length xc, .int .i64 fr, .int .i64 til, .int .i64 lv, .int .u32 c] 58)).heap.size (W2.alloc (.cells #[.int .i64 sid, .slice xa ms.length xc, .int .i64 fr, .int .i64 til, .int .i64 lv, .int .u32 c] 58))
  have u0 := box_later hr3 (i := 0) rfl
  have u1 := box_later hr3 (i := 1) rfl
  have u2 := box_later hr3 (i := 2) rfl
  have u3 := box_later hr3 (i := 3) rfl
  have u4 := box_later hr3 (i := 4) rfl
  have u5 := box_later hr3 (i := 5) rfl
  have t3 := box_there hr3
  rw [h3] at u0 u1 u2 u3 u4 u5 t3
  change W3.there W1.heap.size 0 6 at t1
  change W3.there W2.heap.size 0 6 at t3
  rw [s1] at t1 z0 z1 z2 z3 z4 z5
  rw [s2] at t3 u0 u1 u2 u3 u4 u5
  have f0 := there_free t1 0 (by omega)
  have f1 := there_free t1 1 (by omega)
  have f2 := there_free t1 2 (by omega)
  have f3 := there_free t1 3 (by omega)
  have f4 := there_free t1 4 (by omega)
  have f5 := there_free t1 5 (by omega)
  have e1 := there_free t3 1 (by omega)
  have HB := Lib.hid ((b1.trans (b2.mono (by omega))).trans (b3.mono (by omega)))
  have HT := Lib.hid t1
  clear hr3 g1 g2 b1 b2 b3 t1 t3 hm hkl hk hmc hl
  go_enter Tryz.func27, Tryz.ntmps27
  go_upto_region 1 with fail
  try rw [h1]
  try rw [h2]
  clear h1 h2
  go_upto_region 2 with fail
  try rw [h3]
  try rw [s1]
  try rw [s2]
  clear h3 y3 y4 y5 y6 y7 y8
  go_wp2
  have hT := World.there_setCells HT.out (w.heap.size + 1 + 1) 1 [.slice xa k xc]
  refine bodyPost_ret (results_agg1 rfl _ _ (w.heap.size + 1) [.int .i64 sid, .slice xa k xc, .int .i64 fr, .int .i64 til, .int .i64 lv, .int .u32 c] (.struct _) rfl (World.rangeAt_setCells_same _ (w.heap.size + 1) 0 [.int .i64 sid, .slice xa k xc, .int .i64 fr, .int .i64 til, .int .i64 lv, .int .u32 c] hT) Tryz.underlying58 rfl (by kernel_rfl)) rfl ?_
  have hba := below_puts (g := w.heap.size + 1 + 1) (o := 1) HB.out (by omega) [.slice xa k xc]
  have hbb := below_puts (g := w.heap.size + 1) (o := 0) hba (by omega) [.int .i64 sid, .slice xa k xc, .int .i64 fr, .int .i64 til, .int .i64 lv, .int .u32 c]
  exact ⟨(xa, k, xc), rfl, rfl, by rw [HKL.out]; exact HMT.out, hbb⟩
end Go.Proofs.YtcfococinllcmaaGreat

/- SilenceTimes: the walk. -/
namespace Go.Proofs.YtcfococinllcmaaGreat
open Go.RowKit

theorem c6_put {w : World} {p : Nat} (a b c d e f : Value) (ht : w.there p 0 6) : C6 p a b c d e f (w.setCells p 0 [a, b, c, d, e, f]) := by
  have h := World.rangeAt_setCells_same w p 0 [a, b, c, d, e, f] ht
  exact ⟨h 0 _ rfl, h 1 _ rfl, h 2 _ rfl, h 3 _ rfl, h 4 _ rfl, h 5 _ rfl⟩
theorem c6_far {w : World} {p q : Nat} {a b c d e f : Value} (h : C6 p a b c d e f w) (hne : p ≠ q) (vs : List Value) : C6 p a b c d e f (w.setCells q 0 vs) := by
  have hk := heap_setCells w q p hne vs 0
  obtain ⟨h0, h1, h2, h3, h4, h5⟩ := h
  exact ⟨(World.cell?_of_block (a := ⟨p, 0, none⟩) hk).trans h0, (World.cell?_of_block (a := ⟨p, 1, none⟩) hk).trans h1, (World.cell?_of_block (a := ⟨p, 2, none⟩) hk).trans h2, (World.cell?_of_block (a := ⟨p, 3, none⟩) hk).trans h3, (World.cell?_of_block (a := ⟨p, 4, none⟩) hk).trans h4, (World.cell?_of_block (a := ⟨p, 5, none⟩) hk).trans h5⟩
theorem rd_blk {w : World} {v : Value} {n k : Nat} {xs : List Value} (h : RdAt w v n k xs) : 0 < n → ∀ q, v.ownBlock = some q → q < w.heap.size := by
  intro hn q hq
  rcases h.2 with ⟨rfl, _⟩ | ⟨a, c, rfl, _, hr⟩
  · cases hq
  · obtain ⟨b, o, rfl, hb, _⟩ := hr hn
    cases hq
    exact hb
theorem rd_put {w : World} {v : Value} {n k : Nat} {xs : List Value} (h : RdAt w v n k xs) {q : Nat} (hq : 0 < n → ∀ b, v.ownBlock = some b → b ≠ q) (vs : List Value) : RdAt (w.setCells q 0 vs) v n k xs := by
  rcases Nat.eq_zero_or_pos n with h0 | h0
  · subst h0
    refine ⟨h.1, ?_⟩
    rcases h.2 with h1 | ⟨a, c, rfl, hc, _⟩
    · exact .inl h1
    · exact .inr ⟨a, c, rfl, hc, fun hn => absurd hn (Nat.lt_irrefl _)⟩
  · exact rd_keepB h (by rw [size_setCells]; exact Nat.le_refl _) (fun b hb _ => heap_setCells _ _ _ (hq h0 b hb) _ _)
theorem lay_first (s : Sil) : layE [] s 0 = if rightS s = true then .tuple #[.int .i64 1, .int .i64 0] else .tuple #[.int .i64 0, .int .i64 1] := by
  have hq : quoS [] s = 0 := rfl
  unfold layE laysS
  rw [hq]
  cases rightS s <;> rfl
theorem right_val {l : List Fld} (h : rightF l = true) {j : Nat} (hj : j < l.length) : l[j].2.size ≤ 200 := by
  unfold rightF at h
  simp only [Bool.and_eq_true, List.all_eq_true] at h
  have h2 := h.2 j (List.mem_range.2 hj)
  unfold fldOk at h2
  simp only [Bool.and_eq_true, decide_eq_true_eq] at h2
  have h3 := h2.1.2
  rwa [List.getD_eq_getElem?_getD, List.getElem?_eq_getElem hj] at h3
theorem value_short {G : List Fld} (h : rightF G = true) (n : ByteArray) : (valueF G n).size ≤ 900 := by
  unfold valueF
  split
  · rename_i f hf
    have hm := List.mem_of_find?_eq_some hf
    obtain ⟨j, hj, rfl⟩ := List.getElem_of_mem hm
    have := right_val h hj
    omega
  · exact Nat.zero_le _
/-- the law's state behind the laying -/
structure TmSt (w wr : World) (p lp m n : Nat) (S : List Sil) (last : Int) (y0 y1 y2 y3 y4 y5 x0 x1 x2 x3 x4 x5 : Value) (M : List Mt) (G : List Fld) : Prop where
  y : C6 w.heap.size y0 y1 y2 y3 y4 y5 wr
  x : C6 p x0 x1 x2 x3 x4 x5 wr
  g : C6 (p + 1) x0 x1 x2 x3 x4 x5 wr
  s : SlAt wr lp m n S last
  mt : MtsAt wr y1 M
  f : FldsAt wr x1 G
  bl : Below w.heap.size w wr
  sz : p + 1 < wr.heap.size
  pw : w.heap.size < p
theorem TmSt.below {w wr wr' : World} {p lp m n : Nat} {S : List Sil} {last : Int} {y0 y1 y2 y3 y4 y5 x0 x1 x2 x3 x4 x5 : Value} {M : List Mt} {G : List Fld} (h : TmSt w wr p lp m n S last y0 y1 y2 y3 y4 y5 x0 x1 x2 x3 x4 x5 M G) (hb : Below wr.heap.size wr wr') : TmSt w wr' p lp m n S last y0 y1 y2 y3 y4 y5 x0 x1 x2 x3 x4 x5 M G :=
  ⟨h.y.later hb (by have := h.sz; have := h.pw; omega), h.x.later hb (by have := h.sz; omega), h.g.later hb h.sz, h.s.later hb, MtsAt.later h.mt hb, h.f.later hb, h.bl.trans (hb.mono h.bl.size), Nat.lt_of_lt_of_le h.sz hb.size, h.pw⟩
theorem TmSt.fin {w wr wr' : World} {p lp m n n' : Nat} {S S' : List Sil} {last last' : Int} {y0 y1 y2 y3 y4 y5 x0 x1 x2 x3 x4 x5 : Value} {M : List Mt} {G : List Fld} (h : TmSt w wr p lp m n S last y0 y1 y2 y3 y4 y5 x0 x1 x2 x3 x4 x5 M G) (hs : SlAt wr' lp m n' S' last') (hk : Kp lp m wr wr')
    (h1 : w.heap.size < lp ∧ lp < p) (h2 : w.heap.size < m ∧ m < p) (hm : 0 < M.length → ∀ q, y1.ownBlock = some q → q ≠ lp ∧ q ≠ m) (hg : 0 < G.length → ∀ q, x1.ownBlock = some q → q ≠ lp ∧ q ≠ m) : TmSt w wr' p lp m n' S' last' y0 y1 y2 y3 y4 y5 x0 x1 x2 x3 x4 x5 M G :=
  ⟨c6_kp h.y hk (by omega) (by omega), c6_kp h.x hk (by omega) (by omega), c6_kp h.g hk (by omega) (by omega), hs, rd_kp h.mt hk hm, rd_kp h.f hk hg, h.bl.trans (hk.below (by omega) (by omega) h.bl.size), Nat.lt_of_lt_of_le h.sz hk.size, h.pw⟩
namespace lawTimes
set_option maxHeartbeats 6400000 in
set_option maxRecDepth 100000 in
theorem walk (sv : Value) (sid : Int) (s : Sil) (av : Value) (x : Al) (fv : Value) (now : Int) (w : World) (hs : ArgSil w sv sid s) (hx : ArgAl w av x fv) :
    Calls Tryz.prog 5 #[sv, av, .int .i64 now] w fun e w' => e = .returned (.bool true) ∧ Below w.heap.size w w' := by
  obtain ⟨rfl, hm, hmf, hml, -⟩ := hs
  obtain ⟨rfl, hfl, hfit⟩ := hx
  obtain ⟨src, fl, alv, ac, afr, atil⟩ := x
  dsimp only at hfl hfit ⊢
  obtain ⟨hf0, hf1, hf2, hf3⟩ := hfit
  dsimp only at hf0 hf1 hf2 hf3
  have KG := Lib.hid (fun W (hW : Below w.heap.size w W) => good_own src fl fv alv ac afr atil W hf0 (hfl.later hW) hf1 hf2)
  have KS := Lib.hid (fun W (hW : Below w.heap.size w W) => short_own ⟨0, 0, 0, sid, s⟩ W (RdAt.later hm hW) hml)
  obtain ⟨fa, fc, rfl, -, -⟩ := RdAt.shape hfl
  clear hfl hf0 hf1 hf2 hf3 hml
  obtain ⟨xid, ⟨xa, xn, xc⟩, ms, fr, til, lv, c⟩ := s
  dsimp only [rsV] at *
  have HMF : Hid (MtsFit ms) := hmf
  have hxb : 0 < ms.length → ∀ q, (Value.slice xa xn xc).ownBlock = some q → q < w.heap.size := rd_blk hm
  clear hmf hm
  obtain ⟨W1, h1⟩ : ∃ z, w.alloc (.cells #[.int .i64 sid, .slice xa xn xc, .int .i64 fr, .int .i64 til, .int .i64 lv, .int .u32 c] 58) = z := ⟨_, rfl⟩
  obtain ⟨W2, h2⟩ : ∃ z, W1.alloc (.cells #[.string src, .slice fa fl.length fc, .int .i64 alv, .int .u32 ac, .int .i64 afr, .int .i64 atil] 50) = z := ⟨_, rfl⟩
  have b1 : Below w.heap.size w W1 := by rw [← h1]; exact alloc_below _ _
  have b2 : Below W1.heap.size W1 W2 := by rw [← h2]; exact alloc_below _ _
  have s1 : W1.heap.size = w.heap.size + 1 := by rw [← h1, World.size_alloc]
  have s2 : W2.heap.size = w.heap.size + 2 := by rw [← h2, World.size_alloc, s1]
  have y := alc6 w (.int .i64 sid) (.slice xa xn xc) (.int .i64 fr) (.int .i64 til) (.int .i64 lv) (.int .u32 c) 58
  have yt := box_there (Below.refl _ (w.alloc (.cells #[.int .i64 sid, .slice xa xn xc, .int .i64 fr, .int .i64 til, .int .i64 lv, .int .u32 c] 58)))
  have z := alc6 W1 (.string src) (.slice fa fl.length fc) (.int .i64 alv) (.int .u32 ac) (.int .i64 afr) (.int .i64 atil) 50
  rw [h1] at y yt
  rw [h2, s1] at z
  change W1.there w.heap.size 0 6 at yt
  have HY := Lib.hid (y.later b2 (by omega))
  have HT := Lib.hid (there_later yt b2 (by omega))
  have HZ := Lib.hid z
  have HB := Lib.hid (b1.trans (b2.mono b1.size))
  clear y yt z b1 b2
  have kl := lives_any W2
  go_enter Tryz.func5, Tryz.ntmps5
  go_upto_region 1 with fail
  try rw [h1]
  try rw [h2]
  try rw [s1]
  clear h1 h2 s1
  go_wp2_with fail
  refine kl.mono ?_
  rintro e w1 ⟨rfl, hb⟩
  have HY1 := Lib.hid (HY.out.later hb (by omega))
  have HT1 := Lib.hid (there_later HT.out hb (by omega))
  have HZ1 := Lib.hid (HZ.out.later hb (by omega))
  have HB1 := Lib.hid (HB.out.trans (hb.mono HB.out.size))
  have hs1 : w.heap.size + 1 < w1.heap.size := by have := hb.size; omega
  clear kl hb HY HT HZ HB s2
  have ks := KS.out w1 HB1.out
  unfold SOp.v at ks
  dsimp only [cutS] at ks
  obtain ⟨y0, y1, y2, y3, y4, y5⟩ := HY1.out
  go_wp2_with fail
  refine ks.mono ?_
  rintro e w2 ⟨⟨ma, mn, mc⟩, rfl, hma, hmv, hb⟩
  have hma : ma = xa := hma
  subst hma
  have HT2 := Lib.hid (there_later HT1.out hb (by omega))
  have HZ2 := Lib.hid (HZ1.out.later hb (by omega))
  have HB2 := Lib.hid (HB1.out.trans (hb.mono HB1.out.size))
  have hs2 : w.heap.size + 1 < w2.heap.size := by have := hb.size; omega
  have hmv' : MtsAt w2 (.slice ma mn mc) (ms.take 14) := RdAt.later hmv hb
  have hl14 : (ms.take 14).length ≤ 14 := by rw [List.length_take]; omega
  have HMF2 : Hid (MtsFit (ms.take 14)) := Lib.hid (fun m hm => HMF.out m (List.mem_of_mem_take hm))
  have HXB : Hid (0 < (ms.take 14).length → ∀ q, (Value.slice ma mn mc).ownBlock = some q → q < w.heap.size) := Lib.hid (fun h0 q hq => hxb (by rw [List.length_take] at h0; omega) q (by cases ma <;> exact hq))
  generalize ms.take 14 = M at *
  obtain ⟨u0, u1, u2, u3, u4, u5⟩ := HY1.out.later hb (by omega)
  have g0 := there_free HT2.out 0 (by omega)
  have g1 := there_free HT2.out 1 (by omega)
  have g2 := there_free HT2.out 2 (by omega)
  have g3 := there_free HT2.out 3 (by omega)
  have g4 := there_free HT2.out 4 (by omega)
  have g5 := there_free HT2.out 5 (by omega)
  have HMV := Lib.hid hmv'
  clear ks KS y0 y1 y2 y3 y4 y5 HY1 HT1 HZ1 hb HB1 hs1 HMF hmv hmv' hxb
  go_upto_region 4 with fail
  change Code.wp _ _ _ _ (w2.setCells w.heap.size 0 [.int .i64 sid, .slice ma mn mc, .int .i64 fr, .int .i64 til, .int .i64 lv, .int .u32 c])
  have HY3 := Lib.hid (c6_put (.int .i64 sid) (.slice ma mn mc) (.int .i64 fr) (.int .i64 til) (.int .i64 lv) (.int .u32 c) HT2.out)
  have HZ3 := Lib.hid (c6_far (q := w.heap.size) HZ2.out (by omega) [.int .i64 sid, .slice ma mn mc, .int .i64 fr, .int .i64 til, .int .i64 lv, .int .u32 c])
  have HM3 : Hid (MtsAt (w2.setCells w.heap.size 0 [.int .i64 sid, .slice ma mn mc, .int .i64 fr, .int .i64 til, .int .i64 lv, .int .u32 c]) (.slice ma mn mc) M) := Lib.hid (rd_put HMV.out (fun h0 b hb => by have := HXB.out h0 b hb; omega) _)
  have HB3 : Hid (Below w.heap.size w (w2.setCells w.heap.size 0 [.int .i64 sid, .slice ma mn mc, .int .i64 fr, .int .i64 til, .int .i64 lv, .int .u32 c])) := Lib.hid (below_puts HB2.out (Nat.le_refl _) _)
  have hs3 : w.heap.size + 1 < (w2.setCells w.heap.size 0 [.int .i64 sid, .slice ma mn mc, .int .i64 fr, .int .i64 til, .int .i64 lv, .int .u32 c]).heap.size := by rw [size_setCells]; exact hs2
  clear u0 u1 u2 u3 u4 u5 g0 g1 g2 g3 g4 g5 HT2 HZ2 HB2 hs2 HMV
  generalize w2.setCells w.heap.size 0 [.int .i64 sid, .slice ma mn mc, .int .i64 fr, .int .i64 til, .int .i64 lv, .int .u32 c] = w3 at *
  have kn := new_any w3
  go_wp2_with fail
  refine kn.mono ?_
  rintro e w4 ⟨lp, m, rfl, hS, hlp, hm, hb⟩
  have HY4 := Lib.hid (HY3.out.later hb (by omega))
  have HZ4 := Lib.hid (HZ3.out.later hb (by omega))
  have HM4 := Lib.hid (MtsAt.later HM3.out hb)
  have HB4 := Lib.hid (HB3.out.trans (hb.mono HB3.out.size))
  have HS4 := Lib.hid hS
  have hs4 : w.heap.size + 1 < w4.heap.size := by have := hb.size; omega
  have hlp1 : w.heap.size + 1 < lp := by omega
  have hm1 : w.heap.size + 1 < m := by omega
  clear kn hS hlp hm hb HY3 HZ3 HM3 HB3 hs3
  have kb := sback_any sid ⟨xid, (ma, mn, mc), M, fr, til, lv, c⟩ w4
  unfold rsV Sil.v at kb
  dsimp only at kb
  obtain ⟨y0, y1, y2, y3, y4, y5⟩ := HY4.out
  go_wp2_with fail
  refine kb.mono ?_
  rintro e w5 ⟨rfl, hb⟩
  have HY5 := Lib.hid (HY4.out.later hb (by omega))
  have HZ5 := Lib.hid (HZ4.out.later hb (by omega))
  have HM5 := Lib.hid (MtsAt.later HM4.out hb)
  have HB5 := Lib.hid (HB4.out.trans (hb.mono HB4.out.size))
  have HS5 := Lib.hid (HS4.out.later hb)
  have hs5 : w.heap.size + 1 < w5.heap.size := by have := hb.size; omega
  have kl := lay_any lp m 0 [] 0 ⟨xid, (ma, mn, mc), M, fr, til, lv, c⟩ w5 HS5.out HM5.out HMF2.out (by show M.length ≤ _; omega) (by omega) (by omega) (by omega)
  rw [lay_first] at kl
  unfold Sil.v at kl
  dsimp only at kl
  clear kb y0 y1 y2 y3 y4 y5 hb HY4 HZ4 HM4 HB4 HS4 hs4
  cases hR : rightS ⟨xid, (ma, mn, mc), M, fr, til, lv, c⟩ with
  | false =>
    rw [hR, if_neg (by decide)] at kl
    go_wp2_with fail
    refine kl.mono ?_
    rintro e w6 ⟨rfl, S', l1', n1, hS, hLy, hn1, hk, -⟩
    have HY6 := Lib.hid (c6_kp HY5.out hk (by omega) (by omega))
    have HZ6 := Lib.hid (c6_kp HZ5.out hk (by omega) (by omega))
    have HM6 : Hid (MtsAt w6 (.slice ma mn mc) M) := Lib.hid (rd_kp HM5.out hk (fun h0 q hq => by have := HXB.out h0 q hq; omega))
    have HB6 : Hid (Below w.heap.size w w6) := Lib.hid (HB5.out.trans (hk.below (by omega) (by omega) HB5.out.size))
    have HS6 := Lib.hid hS
    have hs6 : w.heap.size + 1 < w6.heap.size := by have := hk.size; omega
    have HLY := Lib.hid hLy
    clear kl hS hLy hk HY5 HZ5 HM5 HB5 HS5 hs5
    have hS0 : S' = [] := by
      cases HLY.out with
      | no _ => rfl
      | yes h _ => unfold laysS at h; rw [hR] at h; cases h
    subst hS0
    have kn := num_any lp m n1 [] l1' w6 HS6.out
    clear HLY hR
    go_wp2_with fail
    refine kn.mono ?_
    rintro e w7 ⟨v, rfl, hrow, hb⟩
    obtain ⟨va, vc, rfl, -, -⟩ := RdAt.shape (RdAt.own hrow)
    have HB7 := Lib.hid (HB6.out.trans (hb.mono HB6.out.size))
    clear kn hrow hb
    go_wp2
    go_ret
    exact ⟨rfl, HB7.out⟩
  | true =>
    rw [hR, if_pos rfl] at kl
    go_wp2_with fail
    refine kl.mono ?_
    rintro e w6 ⟨rfl, S', l1', n1, hS, hLy, hn1, hk, -⟩
    have HY6 := Lib.hid (c6_kp HY5.out hk (by omega) (by omega))
    have HZ6 := Lib.hid (c6_kp HZ5.out hk (by omega) (by omega))
    have HM6 : Hid (MtsAt w6 (.slice ma mn mc) M) := Lib.hid (rd_kp HM5.out hk (fun h0 q hq => by have := HXB.out h0 q hq; omega))
    have HB6 : Hid (Below w.heap.size w w6) := Lib.hid (HB5.out.trans (hk.below (by omega) (by omega) HB5.out.size))
    have HS6 := Lib.hid hS
    have hs6 : w.heap.size + 1 < w6.heap.size := by have := hk.size; omega
    have HLY := Lib.hid hLy
    clear kl hS hLy hk HY5 HZ5 HM5 HB5 HS5 hs5
    have hlvr := rightS_lv hR
    have hfacts : fr < til ∧ 0 ≤ fr ∧ til ≤ 1099511627776 := by
      unfold rightS at hR
      simp only [Bool.and_eq_true, decide_eq_true_eq] at hR
      omega
    obtain ⟨mv2, hS1⟩ : ∃ mv2, S' = [⟨1, mv2, M, fr, til, lv, c⟩] := by
      cases HLY.out with
      | no h => unfold laysS at h; rw [hR] at h; cases h
      | yes _ mv => exact ⟨mv, rfl⟩
    subst hS1
    clear HLY hR
    obtain ⟨t, ht⟩ : ∃ t, (⟨1, mv2, M, fr, til, lv, c⟩ : Sil) = t := ⟨_, rfl⟩
    have HTid : Hid (t.id = 1 ∧ t.ms = M ∧ t.fr = fr ∧ t.til = til ∧ t.lv = lv) := Lib.hid (by rw [← ht]; exact ⟨rfl, rfl, rfl, rfl, rfl⟩)
    have HTR : Hid (rightL t.lv = true) := Lib.hid (by rw [← ht]; exact hlvr)
    rw [ht] at HS6
    clear ht hlvr
    have kg := KG.out w6 HB6.out
    obtain ⟨z0, z1, z2, z3, z4, z5⟩ := HZ6.out
    go_wp2_with fail
    refine kg.mono ?_
    rintro e w7 ⟨v', rfl, hF, hFF, hRF, hfar, hb⟩
    have HY7 := Lib.hid (HY6.out.later hb (by omega))
    have HM7 := Lib.hid (MtsAt.later HM6.out hb)
    have HB7 := Lib.hid (HB6.out.trans (hb.mono HB6.out.size))
    have HS7 := Lib.hid (HS6.out.later hb)
    have hs7 : w.heap.size + 1 < w7.heap.size := by have := hb.size; omega
    have hG8 : (goodF fl).length ≤ 8 := rightF_len hRF
    have HVS := Lib.hid (fun n => value_short hRF n)
    have HF7 := Lib.hid hF
    have HFF := Lib.hid hFF
    have HGL := Lib.hid (gLv_right alv)
    have hlpw : lp < w6.heap.size := cell_lt HS6.out.h0
    have hmw : m < w6.heap.size := HS6.out.own.lt
    have hs67 := hb.size
    have HFAR : Hid (0 < (goodF fl).length → ∀ q, v'.ownBlock = some q → q ≠ lp ∧ q ≠ m) := Lib.hid (fun h0 q hq => by have := hfar h0 q hq; omega)
    have HMAR : Hid (0 < M.length → ∀ q, (Value.slice ma mn mc).ownBlock = some q → q ≠ lp ∧ q ≠ m) := Lib.hid (fun h0 q hq => by have := HXB.out h0 q hq; omega)
    have HLP : Hid ((w.heap.size < lp ∧ lp < w7.heap.size) ∧ (w.heap.size < m ∧ m < w7.heap.size)) := Lib.hid (by omega)
    generalize goodF fl = G at *
    generalize gSrc src = s' at *
    generalize gLv alv = l' at *
    generalize gFr afr = f' at *
    generalize gTil afr atil = t' at *
    obtain ⟨ga, gc, rfl, -, -⟩ := RdAt.shape hF
    clear kg KG hF hFF hRF hb z0 z1 z2 z3 z4 z5 HZ6 HY6 HM6 HB6 HS6 hs6 hfar hs67 hlpw hmw HXB
    obtain ⟨V1, h1⟩ : ∃ z, w7.alloc (.cells #[.string s', .slice ga G.length gc, .int .i64 l', .int .u32 ac, .int .i64 f', .int .i64 t'] 53) = z := ⟨_, rfl⟩
    obtain ⟨V2, h2⟩ : ∃ z, V1.alloc (.cells #[.string s', .slice ga G.length gc, .int .i64 l', .int .u32 ac, .int .i64 f', .int .i64 t'] 50) = z := ⟨_, rfl⟩
    have b1 : Below w7.heap.size w7 V1 := by rw [← h1]; exact alloc_below _ _
    have b2 : Below V1.heap.size V1 V2 := by rw [← h2]; exact alloc_below _ _
    have s1 : V1.heap.size = w7.heap.size + 1 := by rw [← h1, World.size_alloc]
    have s2 : V2.heap.size = w7.heap.size + 1 + 1 := by rw [← h2, World.size_alloc, s1]
    have y := alc6 w7 (.string s') (.slice ga G.length gc) (.int .i64 l') (.int .u32 ac) (.int .i64 f') (.int .i64 t') 53
    have z := alc6 V1 (.string s') (.slice ga G.length gc) (.int .i64 l') (.int .u32 ac) (.int .i64 f') (.int .i64 t') 50
    rw [h1] at y
    rw [h2, s1] at z
    have b12 : Below w7.heap.size w7 V2 := b1.trans (b2.mono b1.size)
    have hst : TmSt w V2 w7.heap.size lp m n1 [t] l1' (.int .i64 sid) (.slice ma mn mc) (.int .i64 fr) (.int .i64 til) (.int .i64 lv) (.int .u32 c) (.string s') (.slice ga G.length gc) (.int .i64 l') (.int .u32 ac) (.int .i64 f') (.int .i64 t') M G :=
      ⟨HY7.out.later b12 (by omega), y.later b2 (by omega), z, HS7.out.later b12, MtsAt.later HM7.out b12, HF7.out.later b12, HB7.out.trans (b12.mono HB7.out.size), by omega, by omega⟩
    have HST := Lib.hid hst
    clear y z b1 b2 b12 hst HY7 HM7 HF7 HB7 HS7
    go_upto_region 9 with fail
    try rw [h1]
    try rw [h2]
    try rw [s1]
    clear h1 h2 s1 s2 hs7
    generalize w7.heap.size = p at *
    have KQ : Hid (∀ W n S last, TmSt w W p lp m n S last (.int .i64 sid) (.slice ma mn mc) (.int .i64 fr) (.int .i64 til) (.int .i64 lv) (.int .u32 c) (.string s') (.slice ga G.length gc) (.int .i64 l') (.int .u32 ac) (.int .i64 f') (.int .i64 t') M G →
        Calls Tryz.prog 29 #[.pointer (some ⟨lp, 0, none⟩), .agg #[.slice none 0 0, .slice none 0 0, .slice none 0 0, .slice none 0 0, .slice none 0 0, .slice none 0 0], .agg #[.string s', .slice ga G.length gc, .int .i64 l', .int .u32 ac, .int .i64 f', .int .i64 t'], .agg #[.int .i64 7, .int .u32 4294967295], .int .i64 now] W
          fun e w' => ∃ qa qc, e = .returned (.slice qa (quietL [] S G (l', ac) (7, 4294967295) now).length qc) ∧ Below W.heap.size W w') := Lib.hid (fun W n S last hW => by
      refine (quiet_any (none, 0, 0) (none, 0, 0) (none, 0, 0) (none, 0, 0) (none, 0, 0) [] (.slice none 0 0) s' G (.slice ga G.length gc) l' ac f' t' 7 4294967295 now lp m n S last W hW.s (RdAt.nil _ _) (by decide) hW.f (by omega) HFF.out).mono ?_
      rintro e w' ⟨v', rfl, hI, hb⟩
      obtain ⟨qa, qc, rfl, -, -⟩ := RdAt.shape hI
      exact ⟨qa, qc, rfl, hb⟩)
    have kq := KQ.out V2 n1 [t] l1' HST.out
    have HQN := Lib.hid (quiet_one G (ac := ac) t now HGL.out HTR.out)
    have HAF := Lib.hid (fun (hn : ¬ t.til ≤ now) => times_after G (ac := ac) t now HGL.out HTR.out HTid.out.1 hn)
    have HEK := Lib.hid (end_known t now HTid.out.1)
    have HKB : Hid (keepB G t now = (decide (0 < G.length) && allM G M && (decide (fr ≤ now) && decide (now < til)))) := Lib.hid (by unfold keepB; rw [HTid.out.2.1, HTid.out.2.2.1, HTid.out.2.2.2.1])
    have HTT : Hid (t.til = til) := Lib.hid HTid.out.2.2.2.1
    obtain ⟨x0, x1, x2, x3, x4, x5⟩ := HST.out.x
    generalize (quietL [] [t] G (l', ac) (7, 4294967295) now).length = qn at *
    go_wp2_with fail
    refine kq.mono ?_
    rintro e w8 ⟨qa, qc, rfl, hb⟩
    have HST8 := Lib.hid (HST.out.below hb)
    clear kq hb x0 x1 x2 x3 x4 x5 HST
    go_upto_region 10 with fail
    go_cut [13] from 51 (fun v wx => v = .bool (decide (0 < G.length) && allM G M) ∧ Hid (TmSt w wx p lp m n1 [t] l1' (.int .i64 sid) (.slice ma mn mc) (.int .i64 fr) (.int .i64 til) (.int .i64 lv) (.int .u32 c) (.string s') (.slice ga G.length gc) (.int .i64 l') (.int .u32 ac) (.int .i64 f') (.int .i64 t') M G))
    case first =>
      obtain ⟨x0, x1, x2, x3, x4, x5⟩ := HST8.out.g
      obtain ⟨y0, y1, y2, y3, y4, y5⟩ := HST8.out.y
      have ka := all6_any G M _ _ w8 HST8.out.f (by omega) (fun mm _ => HVS.out mm.nm) HST8.out.mt (by omega) HMF2.out
      by_cases h0 : 0 < G.length
      · have h0i : (0 : Int) < (G.length : Int) := by omega
        generalize allM G M = AM at *
        go_wp2_with fail
        refine ka.mono ?_
        rintro e w9 ⟨rfl, hb⟩
        have HST9 := Lib.hid (HST8.out.below hb)
        clear ka hb x0 x1 x2 x3 x4 x5 y0 y1 y2 y3 y4 y5
        go_wp2
        go_meet
        exact ⟨by rw [decide_eq_true h0]; rfl, HST9⟩
      · have h0i : decide ((0 : Int) < (G.length : Int)) = false := decide_eq_false (by omega)
        have H0 := Lib.hid h0
        clear ka h0
        go_wp2
        go_meet
        exact ⟨by rw [decide_eq_false H0.out]; rfl, HST8⟩
    case rest =>
    obtain ⟨rfl, HST9⟩ := hcut
    clear HST8
    obtain ⟨F, hF⟩ : ∃ F, (decide (0 < G.length) && allM G M) = F := ⟨_, rfl⟩
    rw [hF] at HKB ⊢
    clear hF
    go_upto_region 11 with fail
    go_cut [14] from 62 (fun v wx => v = .bool (decide (fr ≤ now) && decide (now < til)) ∧ wx = wc)
    case first =>
      obtain ⟨y0, y1, y2, y3, y4, y5⟩ := HST9.out.y
      by_cases h1 : fr ≤ now
      · by_cases h2 : now < til
        · go_wp2
          go_meet
          exact ⟨by rw [decide_eq_true h1, decide_eq_true h2]; rfl, rfl⟩
        · go_wp2
          go_meet
          exact ⟨by rw [decide_eq_true h1, decide_eq_false (by omega)]; rfl, rfl⟩
      · go_wp2
        go_meet
        exact ⟨by rw [decide_eq_false (by omega)]; rfl, rfl⟩
    case rest =>
    obtain ⟨rfl, rfl⟩ := hcut
    obtain ⟨N, hN⟩ : ∃ N, (decide (fr ≤ now) && decide (now < til)) = N := ⟨_, rfl⟩
    rw [hN] at HKB ⊢
    clear hN
    have hqn : qn = if (F && N) = true then 1 else 0 := by rw [HQN.out, HKB.out]
    clear HQN HKB
    go_upto_region 12 with fail
    go_cut [84] from 72 (fun v wx => v = .bool false ∧ wx = wc)
    case first =>
      cases F <;> cases N
      all_goals
        simp at hqn
        subst hqn
        go_wp2
        go_meet
        exact ⟨rfl, rfl⟩
    case rest =>
    obtain ⟨rfl, rfl⟩ := hcut
    have ke := end_any lp m n1 [t] l1' 1 now wc HST9.out.s (by decide) (by omega)
    clear hqn
    by_cases hn : t.til ≤ now
    · rw [HEK.out, if_pos hn] at ke
      have hge : til ≤ now := by rw [← HTT.out]; exact hn
      clear HAF
      go_wp2_with fail
      refine ke.mono ?_
      rintro e w10 ⟨rfl, n2, hS2, hn2, hk⟩
      have HST10 := Lib.hid (HST9.out.fin hS2 hk HLP.out.1 HLP.out.2 HMAR.out HFAR.out)
      obtain ⟨y0, y1, y2, y3, y4, y5⟩ := HST10.out.y
      clear ke hS2 hk HST9
      go_wp2
      go_ret
      exact ⟨by first | rfl | (rw [decide_eq_true hge]), HST10.out.bl⟩
    · rw [HEK.out, if_neg hn] at ke
      have HA := Lib.hid (HAF.out (by omega))
      clear HAF HTT HEK
      go_wp2_with fail
      refine ke.mono ?_
      rintro e w10 ⟨rfl, n2, hS2, hn2, hk⟩
      have HST10 := Lib.hid (HST9.out.fin hS2 hk HLP.out.1 HLP.out.2 HMAR.out HFAR.out)
      obtain ⟨x0, x1, x2, x3, x4, x5⟩ := HST10.out.x
      have kq2 := KQ.out w10 n2 _ l1' HST10.out
      rw [HA.out.1] at kq2
      clear ke hS2 hk HST9 KQ
      go_wp2_with fail
      refine kq2.mono ?_
      rintro e w11 ⟨qa2, qc2, rfl, hb⟩
      have HST11 := Lib.hid (HST10.out.below hb)
      have ke2 := end_any lp m n2 _ l1' 1 now w11 HST11.out.s (by decide) (by omega)
      rw [HA.out.2] at ke2
      clear kq2 hb x0 x1 x2 x3 x4 x5 HST10
      go_wp2_with fail
      refine ke2.mono ?_
      rintro e w12 ⟨rfl, n3, -, -, hk3⟩
      have HB12 : Hid (Below w.heap.size w w12) := Lib.hid (HST11.out.bl.trans (hk3.below (by have := HLP.out; omega) (by have := HLP.out; omega) HST11.out.bl.size))
      clear ke2 hk3
      go_wp2
      go_ret
      exact ⟨rfl, HB12.out⟩
end lawTimes
end Go.Proofs.YtcfococinllcmaaGreat

/- SilenceTimes: the card: whatever the arguments, the law returns true and its arguments read as they did. No condition. -/
namespace Go.Proofs.YtcfococinllcmaaGreat.lawTimes
open Go.ChangeShapes Go.WideShapes Go.ChangeAt Go.RowKit
open Go.ChangeMaps (open_string)

set_option maxRecDepth 100000 in
theorem contract (H : Type) (enc : TypeId × Value → H) (W : World) (base : Nat) (args : Array Value) (ds gs : List (DataW H)) (before : List MemPlace)
    (hval : ∀ (j : Nat) t v, Tryz.f5.params[j]? = some t → args[j]? = some v → Value.okWide Tryz.prog W .any base t v)
    (hW : DataW.Whole enc Tryz.prog Tryz.f5.params.toList Rows.silenceTimesSpec.vars false W args.toList ds gs before) :
    Calls Tryz.prog 5 args W fun e W' => ∃ v, e = .returned v ∧ Rows.silenceTimesSpec.post enc Tryz.prog Tryz.f5 false true false false W args v W' := by
  have hW' := hW
  obtain ⟨p, q, hA0, hV, rfl, hfz, hnd⟩ := hW
  have hA : DataW.TrodAll enc Tryz.prog W 0 (fun _ => true) true Tryz.f5.params.toList args.toList ds p := hA0
  rw [Tryz.params5] at hA hval
  obtain ⟨v0, vs0, d0, ds0, p0, q0, hargs, rfl, rfl, h0, r0⟩ := trodAll_cons hA
  obtain ⟨v1, vs1, d1, ds1, p1, q1, rfl, rfl, rfl, h1, r1⟩ := trodAll_cons r0
  obtain ⟨v2, vs2, d2, ds2, p2, q2, rfl, rfl, rfl, h2, r2⟩ := trodAll_cons r1
  obtain ⟨rfl, rfl, rfl⟩ := trodAll_nil r2
  obtain rfl : args = #[v0, v1, v2] := by cases args; simp_all
  obtain ⟨rfl, rfl⟩ := trodVars_none hV
  obtain ⟨x0, y0, hx0⟩ := sil_of_arg (hval 0 58 v0 rfl rfl) h0
  obtain ⟨x1, y1, hx1⟩ := al_of_arg (hval 1 50 v1 rfl rfl) h1
  obtain ⟨x2, rfl, rfl, rfl, wx2⟩ := open_int Tryz.underlying3 (hval 2 3 v2 rfl rfl) h2
  clear hA0
  refine (walk v0 x0 y0 v1 x1 y1 x2 W hx0 hx1).mono ?_
  rintro e W' ⟨rfl, hb⟩
  exact ⟨_, rfl, law_post laidOut Tryz.underlying4 rfl rfl (by kernel_rfl) hW' rfl rfl rfl hb⟩

theorem laid_met (os : Os) : laidMet Tryz.prog Rows.silenceTimesRow.laid ((laidWorld os).forCall (fun _ _ => 0) ⟨#[], #[.agg #[.int .i64 0, .slice none 0 0, .int .i64 0, .int .i64 0, .int .i64 0, .int .u32 0], .agg #[.string ⟨#[]⟩, .slice none 0 0, .int .i64 0, .int .u32 0, .int .i64 0, .int .i64 0], .int .i64 0], []⟩).memory :=
  ⟨[], rfl, List.nodup_nil, fun _ _ h => by cases h⟩
theorem reads (os : Os) {H : Type} (enc : TypeId × Value → H) : ∃ places, DataW.whole enc Tryz.prog ((laidWorld os).forCall (fun _ _ => 0) ⟨#[], #[.agg #[.int .i64 0, .slice none 0 0, .int .i64 0, .int .i64 0, .int .i64 0, .int .u32 0], .agg #[.string ⟨#[]⟩, .slice none 0 0, .int .i64 0, .int .u32 0, .int .i64 0, .int .i64 0], .int .i64 0], []⟩).memory Tryz.f5.params.toList Rows.silenceTimesSpec.vars false (#[.agg #[.int .i64 0, .slice none 0 0, .int .i64 0, .int .i64 0, .int .i64 0, .int .u32 0], .agg #[.string ⟨#[]⟩, .slice none 0 0, .int .i64 0, .int .u32 0, .int .i64 0, .int .i64 0], .int .i64 0] : Array Value).toList 8 = some ([.agg [.lit (.int .i64 0), .nil, .lit (.int .i64 0), .lit (.int .i64 0), .agg [.lit (.int .i64 0), .lit (.int .u32 0)]], .agg [.lit (.string []), .nil, .agg [.lit (.int .i64 0), .lit (.int .u32 0)], .lit (.int .i64 0), .lit (.int .i64 0)], .lit (.int .i64 0)], [], places) :=
  ⟨[], by kernel_rfl⟩

set_option maxRecDepth 100000 in
theorem lifted (os : Os) (started : os.Started) (H : Type) (enc : TypeId × Value → H) (F : Stop.Interp) :
    ReturnsInHanded {} Tryz.checked os 5 .any ((OpenSpec.ofChange Rows.silenceTimesSpec).preRow enc Tryz.prog Tryz.f5 Rows.silenceTimesRow.domain false Rows.silenceTimesRow.laid) (((OpenSpec.ofChange Rows.silenceTimesSpec).at F).post enc Tryz.prog Tryz.f5 false true false false) := by
  obtain ⟨places, hx⟩ := reads os enc
  refine returnsInHanded_of_row (C := Tryz.checked) (s := OpenSpec.ofChange Rows.silenceTimesSpec) ownNone started (by kernel_rfl) Tryz.func5
    (witness_row_at (enc := enc) (C := Tryz.checked) false (laidWorld os) #[.agg #[.int .i64 0, .slice none 0 0, .int .i64 0, .int .i64 0, .int .i64 0, .int .u32 0], .agg #[.string ⟨#[]⟩, .slice none 0 0, .int .i64 0, .int .u32 0, .int .i64 0, .int .i64 0], .int .i64 0] rfl (by kernel_rfl) (by kernel_rfl) (by kernel_rfl)
      (OpenSpec.preRow_of_cond 8 hx (by kernel_rfl) (fun k hk => by cases hk) (by kernel_rfl) (laid_met os))) ?_
  intro W base args ds gs before hval hW _ _ _ _ _ _
  exact contract H enc W base args ds gs before hval hW

theorem said : Rows.SilenceTimesSaid :=
  OpenClaim.holds_of_cond 5 Tryz.f5 rfl rfl rfl rfl rfl rfl rfl ⟨rfl, rfl, rfl, rfl, rfl⟩ rfl rfl rfl rfl rfl (by kernel_rfl) Tryz.func5 (by kernel_rfl)
    (of_decide_eq_true (by kernel_rfl)) (by unfold Func.isWrapper; first | (rw [if_pos (by decide +kernel)]; kernel_rfl) | (rw [if_neg (by decide +kernel)]; exact ⟨rfl, rfl⟩))
    (fun os started H enc _ F => by rw [OpenClaim.pre_eq_preRow]; exact lifted os started H enc F)

end Go.Proofs.YtcfococinllcmaaGreat.lawTimes

