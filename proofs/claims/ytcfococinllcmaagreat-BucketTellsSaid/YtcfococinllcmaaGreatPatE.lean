/- pattern's builder: a state's bytes: the plain part, and one's walk. -/
import Derived.Test.YtcfococinllcmaaGreatPatD
import Derived.Test.YtcfococinllcmaaGreatHeldT
import Derived.Deep.DeepCutAuto
namespace Go.Proofs.YtcfococinllcmaaGreat
open Go.RowKit

theorem stC_set01 : ∀ (l : List St) (m : List (Value × Value)) (i : Nat) (x : St) (e : Value × Value) (v : Value) (S : Option (Nat → Bool)) (n : Nat), l[i]? = some x → m[i]? = some e →
    ((stC l m).set (i * 3) v).set (i * 3 + 1) (.int .i64 n) = stC (l.set i ⟨S, n, x.free⟩) (m.set i (v, e.2))
  | [], _, _, _, _, _, _, _, h, _ => by simp at h
  | _ :: _, [], _, _, _, _, _, _, _, h => by simp at h
  | y :: l, d :: m, 0, x, e, v, S, n, h, h' => by simp at h h'; subst h h'; rfl
  | y :: l, d :: m, i + 1, x, e, v, S, n, h, h' => by
    have := stC_set01 l m i x e v S n (by simpa using h) (by simpa using h')
    rw [show (i + 1) * 3 + 1 = (i * 3 + 1) + 3 by omega, show (i + 1) * 3 = (i * 3) + 3 by omega]
    simp [stC, this]
theorem BldV.bytes {w : World} {g : Nat} {s : ByteArray} {b : Bs} {own : Nat → Prop} {sv : Value} {es : List (Value × Value)} (h : BldV w g s b own sv es) {f n : Nat} {x : St} {e : Value × Value} (hx : b.sts[f]? = some x) (he : es[f]? = some e)
    {k r : Nat} {S : Nat → Bool} (hS : SetAt w k S) (hk : ¬ own k) (hsv : sv.ownBlock = some r) :
    BldV ((w.setCell ⟨r, f * 3, none⟩ (.pointer (some ⟨k, 0, none⟩))).setCell ⟨r, f * 3 + 1, none⟩ (.int .i64 n)) g s { b with sts := b.sts.set f ⟨some S, n, x.free⟩ } (fun j => own j ∨ j = k) sv (es.set f (.pointer (some ⟨k, 0, none⟩), e.2)) := by
  obtain ⟨hr1, hr2⟩ := h.orow r hsv
  have hkr : k ≠ r := fun e => hk (e ▸ hr1)
  have hkg : k ≠ g := fun e => hk (e ▸ h.og)
  have hold : ∀ j, j ≠ r → ((w.setCell ⟨r, f * 3, none⟩ (.pointer (some ⟨k, 0, none⟩))).setCell ⟨r, f * 3 + 1, none⟩ (.int .i64 n)).heap[j]? = w.heap[j]? := fun j hj =>
    (heap_setCell_other _ _ _ _ hj).trans (heap_setCell_other _ _ _ _ hj)
  have hsz : ((w.setCell ⟨r, f * 3, none⟩ (.pointer (some ⟨k, 0, none⟩))).setCell ⟨r, f * 3 + 1, none⟩ (.int .i64 n)).heap.size = w.heap.size := by simp
  have xget : ∀ (i : Nat) (d : Value × Value), es[i]? = some d → ∃ y, b.sts[i]? = some y := fun i d hd => ⟨_, List.getElem?_eq_getElem (by rw [← h.len]; exact (List.getElem?_eq_some_iff.1 hd).1)⟩
  have nown : ∀ (i : Nat) (d : Value × Value) (j : Nat), es[i]? = some d → d.2.ownBlock = some j → j ≠ r := fun i d j hd hj e' => (h.far i d j hd hj).2 (e' ▸ hsv)
  refine ⟨(hold g (fun e => hr2 e.symm)).trans h.blk, .inl h.og, ?_, ?_, ?_, ?_, ?_, ?_, ?_, ?_, ?_⟩
  · rintro j (hj | rfl)
    · rw [hsz]; exact h.lt j hj
    · rw [hsz]; exact hS.lt
  · simp [h.len]
  · dsimp only
    rw [List.length_set, ← stC_set01 b.sts es f x e _ (some S) n hx he]
    exact ownsRow_set (ownsRow_set h.row hsv _) hsv _
  · intro j e'
    obtain ⟨h1, h2⟩ := h.orow j e'
    exact ⟨.inl h1, h2⟩
  · intro i y d hy hd
    dsimp only at hy
    rcases get_set hd with ⟨hi, hd1⟩ | ⟨hi, hd1⟩
    · rcases get_set hy with ⟨_, hy1⟩ | ⟨hi', _⟩
      · subst hd1 hy1
        exact ⟨k, rfl, hS.blk (hold k hkr), .inr rfl⟩
      · exact absurd hi hi'
    · rcases get_set hy with ⟨hi', _⟩ | ⟨_, hy1⟩
      · exact absurd hi' hi
      · have hp := h.ptr i y d hy1 hd1
        exact (hp.kept (fun j hv => hold j (fun e' => (h.pfar i d j hd1 hv).2.1 (e' ▸ hsv)))).mono (fun j hj => .inl hj)
  · intro i y d hy hd
    dsimp only at hy
    have key : ∀ y' (d' : Value × Value), b.sts[i]? = some y' → es[i]? = some d' → y.free = y'.free → d.2 = d'.2 → FreeAt ((w.setCell ⟨r, f * 3, none⟩ (.pointer (some ⟨k, 0, none⟩))).setCell ⟨r, f * 3 + 1, none⟩ (.int .i64 n)) (fun j => own j ∨ j = k) y d.2 := by
      intro y' d' hy' hd' e1 e2
      obtain ⟨h1, h2⟩ := h.free i y' d' hy' hd'
      unfold FreeAt
      rw [e1, e2]
      exact ⟨ownsRow_blk h1 (fun j hj => hold j (nown i d' j hd' hj)), fun j hj => .inl (h2 j hj)⟩
    rcases get_set hd with ⟨hi, hd1⟩ | ⟨hi, hd1⟩
    · rcases get_set hy with ⟨_, hy1⟩ | ⟨hi', _⟩
      · subst hi
        exact key x e hx he (by rw [hy1]) (by rw [hd1])
      · exact absurd hi hi'
    · rcases get_set hy with ⟨hi', _⟩ | ⟨_, hy1⟩
      · exact absurd hi' hi
      · exact key y d hy1 hd1 rfl rfl
  · intro i d j hd hj
    rcases get_set hd with ⟨hi, hd1⟩ | ⟨hi, hd1⟩
    · subst hi hd1
      exact h.far i e j he hj
    · exact h.far i d j hd1 hj
  · intro i d j hd hj
    have free' : ∀ (j : Nat), (∀ (i : Nat) (d : Value × Value), es[i]? = some d → d.2.ownBlock ≠ some j) → ∀ (i : Nat) (d : Value × Value), (es.set f (.pointer (some ⟨k, 0, none⟩), e.2))[i]? = some d → d.2.ownBlock ≠ some j := by
      intro j hj i d hd
      rcases get_set hd with ⟨_, hd1⟩ | ⟨_, hd1⟩
      · rw [hd1]; exact hj f e he
      · exact hj i d hd1
    rcases get_set hd with ⟨hi, hd1⟩ | ⟨hi, hd1⟩
    · rw [hd1] at hj
      simp at hj
      subst hj
      refine ⟨hkg, fun e' => hk (h.orow k e').1, free' k ?_⟩
      intro i d hd hj
      obtain ⟨y, hy⟩ := xget i d hd
      exact hk ((h.free i y d hy hd).2 k hj)
    · obtain ⟨h1, h2, h3⟩ := h.pfar i d j hd1 hj
      exact ⟨h1, h2, free' j h3⟩
  · intro i j d d' q hd hd' hq hq'
    rcases get_set hd with ⟨hi, hd1⟩ | ⟨hi, hd1⟩
    · rcases get_set hd' with ⟨hj, hd1'⟩ | ⟨hj, hd1'⟩
      · rw [hi, hj]
      · rw [hd1] at hq
        rw [hi]
        exact h.apart f j e d' q he hd1' hq hq'
    · rcases get_set hd' with ⟨hj, hd1'⟩ | ⟨hj, hd1'⟩
      · rw [hd1'] at hq'
        rw [hj]
        exact h.apart i f d e q hd1 he hq hq'
      · exact h.apart i j d d' q hd1 hd1' hq hq'
theorem blk_there {w : World} {k : Nat} {cs : Array Value} {t : TypeId} (h : w.heap[k]? = some (.cells cs t (0, 0))) : w.there k 0 cs.size := by
  intro j hj
  rw [Nat.zero_add]
  exact ⟨by simp [World.cell?, h, hj], by simp [World.frozen?, h]⟩
theorem part_there {w : World} {k : Nat} {x y : Value} {t : TypeId} (h : w.heap[k]? = some (.cells #[x, y] t (0, 0))) : w.there k 0 2 := blk_there h
set_option maxHeartbeats 3200000 in
set_option maxRecDepth 100000 in
theorem one_is (w : World) (g : Nat) (s : ByteArray) (b : Bs) (own : Nat → Prop) (S : Nat → Bool) (k : Nat) (h : Bld w g s b own) (hS : SetAt w k S) (hk : ¬ own k) (hn : b.sts.length + 1 ≤ 1000000) :
    Calls Tryz.prog 179 #[.pointer (some ⟨g, 0, none⟩), .pointer (some ⟨k, 0, none⟩)] w fun e w' => e = .returned (.agg #[.int .i64 b.sts.length, .int .i64 ((b.sts.length + 1 : Nat) : Int)]) ∧
      ∃ own', Bld w' g s (oneM b S).1 own' ∧ Keep own w w' ∧ ∀ j, own' j → own j ∨ j = k ∨ w.heap.size ≤ j := by
  have hba := alloc_below w (.cells #[.int .i64 0, .int .i64 0] 192)
  have hnb : (w.alloc (.cells #[.int .i64 0, .int .i64 0] 192)).heap[w.heap.size]? = some (.cells #[.int .i64 0, .int .i64 0] 192 (0, 0)) := heap_alloc_new _ _
  have hno : ¬ own w.heap.size := fun h0 => by have := h.lt _ h0; omega
  have hB0 := h.below hba
  have hS0 := hS.blk (w' := w.alloc (.cells #[.int .i64 0, .int .i64 0] 192)) (hba.block k hS.lt)
  have k1 := node_is _ g s b own hB0 (by omega)
  have HBA := Lib.hid hba
  have HNB := Lib.hid hnb
  clear hB0 hba hnb h
  go_enter Tryz.func179, Tryz.ntmps179
  go_upto_region 1 with fail
  change Code.wp _ _ _ _ (w.alloc (.cells #[.int .i64 0, .int .i64 0] 192))
  generalize w.alloc (.cells #[.int .i64 0, .int .i64 0] 192) = w0 at *
  go_wp2_with fail
  refine k1.mono ?_
  rintro e w1 ⟨rfl, own1, hB1, hst1⟩
  have k2 := node_is _ g s (nodeM b) own1 hB1 (by simp [nodeM]; omega)
  have HST1 := Lib.hid hst1
  clear k1 hB1 hst1
  go_wp2_with fail
  refine k2.mono ?_
  rintro e w2 ⟨rfl, own2, hB2, hst2⟩
  have HST := Lib.hid (HST1.out.trans hst2)
  have HB2 := Lib.hid hB2
  clear k2 hB2 hst2 HST1
  have hl1 : (nodeM b).sts.length = b.sts.length + 1 := by simp [nodeM]
  rw [hl1]
  obtain ⟨n, hnn⟩ : ∃ n, b.sts.length = n := ⟨_, rfl⟩
  have HNN := Lib.hid hnn
  rw [hnn] at hl1 hn ⊢
  have HL2 : Hid ((nodeM (nodeM b)).sts.length = n + 2) := Lib.hid (by show _ = _; rw [← hnn]; simp [nodeM])
  have hsts : (nodeM (nodeM b)).sts = b.sts ++ [⟨none, 0, []⟩] ++ [⟨none, 0, []⟩] := rfl
  have hxn : (nodeM (nodeM b)).sts[n]? = some ⟨none, 0, []⟩ := by rw [hsts, ← hnn]; simp
  obtain ⟨sv, es, hV⟩ := HB2.out
  have HV := Lib.hid hV
  obtain ⟨e0, he0⟩ : ∃ e, es[n]? = some e := ⟨_, List.getElem?_eq_getElem (by rw [hV.len, HL2.out]; omega)⟩
  obtain ⟨r, cap, rfl, _, hrlt⟩ := hV.row.form (by rw [HL2.out]; omega)
  obtain ⟨q0, q1, _⟩ := stC_at _ es n _ e0 hxn he0
  obtain ⟨cf0, ff0⟩ := ownsRow_cell hV.row (g := r) rfl q0
  obtain ⟨cf1, ff1⟩ := ownsRow_cell hV.row (g := r) rfl q1
  dsimp only at cf0 cf1
  have c3 := hV.cells.2.2.2.1
  have hgl := hV.lt g hV.og
  rw [HL2.out] at c3
  have HXN := Lib.hid hxn
  have HE0 := Lib.hid he0
  have hn0 : (0 : Int) ≤ (n : Int) := by omega
  have hn1 : (n : Int) < (n : Int) + 2 := by omega
  clear hV q0 q1 hxn he0 hsts hnn hl1
  go_upto_region 2 with fail
  change Code.wp _ _ _ _ (w2.alloc (.cells #[.int .i64 n, .int .i64 ((n + 1 : Nat) : Int)] 192))
  have hb3 := alloc_below w2 (.cells #[.int .i64 n, .int .i64 ((n + 1 : Nat) : Int)] 192)
  have hp3 : (w2.alloc (.cells #[.int .i64 n, .int .i64 ((n + 1 : Nat) : Int)] 192)).heap[w2.heap.size]? = some (.cells #[.int .i64 n, .int .i64 ((n + 1 : Nat) : Int)] 192 (0, 0)) := heap_alloc_new _ _
  generalize w2.alloc (.cells #[.int .i64 n, .int .i64 ((n + 1 : Nat) : Int)] 192) = w3 at *
  have hd3 := hb3.drew
  have hpd : w3.drew.heap[w2.heap.size]? = some (.cells #[.int .i64 n, .int .i64 ((n + 1 : Nat) : Int)] 192 (0, 0)) := hp3
  have c3 := keep_cell c3 hd3 hgl
  have cf0 := keep_cell cf0 hd3 hrlt
  have cf1 := keep_cell cf1 hd3 hrlt
  have ff0 := (hd3.frozen (p := ⟨r, n * 3, none⟩) hrlt).trans ff0
  have ff1 := (hd3.frozen (p := ⟨r, n * 3 + 1, none⟩) hrlt).trans ff1
  have p0 : w3.drew.cell? ⟨w2.heap.size, 0, none⟩ = some (.int .i64 n) := by rw [cell_of_row _ _ _ _ _ _ hpd]; rfl
  have p1 : w3.drew.cell? ⟨w2.heap.size, 1, none⟩ = some (.int .i64 ((n + 1 : Nat) : Int)) := by rw [cell_of_row _ _ _ _ _ _ hpd]; rfl
  have HVD := Lib.hid (HV.out.kept hd3.size (fun j hj => hd3.block j (HV.out.lt j hj)))
  have hk2 : ¬ own2 k := HST.out.not hS0.lt hk
  have hS2 := (hS0.blk (w' := w2) (HST.out.1.block k hS0.lt hk))
  have HSD := Lib.hid (hS2.blk (w' := w3.drew) (hd3.block k hS2.lt))
  have hrl0 : w.heap.size < w0.heap.size := (Array.getElem?_eq_some_iff.1 HNB.out).1
  have hnr2 : ¬ own2 w.heap.size := HST.out.not hrl0 hno
  have hrb2 := HST.out.blk HNB.out hno
  have hrb3 : w3.drew.heap[w.heap.size]? = some (.cells #[.int .i64 0, .int .i64 0] 192 (0, 0)) := (hd3.block _ (Nat.lt_of_lt_of_le hrl0 HST.out.1.size)).trans hrb2
  have hKP : Keep own w w3.drew := ((Keep.of_below HBA.out).trans HST.out.1 (fun j hj => .inl hj)).trans (Keep.of_below (own := own) hd3) (fun j hj => .inl hj)
  have HKP := Lib.hid hKP
  have hrw : w.heap.size ≠ r := fun e => hnr2 (e ▸ (HV.out.orow r rfl).1)
  have HRB := Lib.hid hrb3
  have hown2 : ∀ j, own2 j → own j ∨ w.heap.size ≤ j := fun j hj => (HST.out.2 j hj).imp id (fun h => Nat.le_trans HBA.out.size h)
  have HR2 := Lib.hid (hown2 r (HV.out.orow r rfl).1)
  have HOWN := Lib.hid hown2
  clear hrb2 hrb3 hS2 hS0 hKP hown2 hrl0
  have hrp : r ≠ w2.heap.size := by omega
  have hrg : r ≠ g := (HV.out.orow r rfl).2
  clear hb3 hp3 hpd hd3
  generalize w2.heap.size = pb at *
  refine wp_region_held_drew (S := (fun W => W.cell? ⟨g, 3, none⟩ = some (.slice (some ⟨r, 0, none⟩) (n + 2) cap) ∧ W.cell? ⟨pb, 0, none⟩ = some (.int .i64 n) ∧ W.cell? ⟨pb, 1, none⟩ = some (.int .i64 ((n + 1 : Nat) : Int)))) (by kernel_rfl) ⟨c3, p0, p1⟩ (fun hHeld => ?_)
  generalize w3.drew = wd at *
  refine held_take (i := 0) (v := ?_) rfl rfl (by kernel_rfl) (by kernel_rfl) (by kernel_rfl) (fun _ _ _ h => h) (by rfl) hHeld ?_ ?_
  rotate_left
  · rintro wh ⟨z0, z1, z2⟩
    go_simp
    (try with_reducible rfl)
  simp only [Act.put, List.setIfInBounds_toArray, List.set_cons_zero, List.set_cons_succ]
  refine held_take (i := 1) (v := ?_) rfl rfl (by kernel_rfl) (by kernel_rfl) (by kernel_rfl) (fun _ _ _ h => h) (by rfl) hHeld ?_ ?_
  rotate_left
  · rintro wh ⟨z0, z1, z2⟩
    go_simp
    (try with_reducible rfl)
  simp only [Act.put, List.setIfInBounds_toArray, List.set_cons_zero, List.set_cons_succ]
  refine held_take (i := 2) (v := ?_) rfl rfl (by kernel_rfl) (by kernel_rfl) (by kernel_rfl) (fun _ _ _ h => h) (by rfl) hHeld ?_ ?_
  rotate_left
  · rintro wh ⟨z0, z1, z2⟩
    go_simp
    (try with_reducible rfl)
  simp only [Act.put, List.setIfInBounds_toArray, List.set_cons_zero, List.set_cons_succ]
  refine held_take (i := 3) (v := ?_) rfl rfl (by kernel_rfl) (by kernel_rfl) (by kernel_rfl) (fun _ _ _ h => h) (by rfl) hHeld ?_ ?_
  rotate_left
  · rintro wh ⟨z0, z1, z2⟩
    go_simp
    (try with_reducible rfl)
  simp only [Act.put, List.setIfInBounds_toArray, List.set_cons_zero, List.set_cons_succ]
  refine held_take (i := 4) (v := ?_) rfl rfl (by kernel_rfl) (by kernel_rfl) (by kernel_rfl) (fun _ _ _ h => h) (by rfl) hHeld ?_ ?_
  rotate_left
  · rintro wh ⟨z0, z1, z2⟩
    go_simp
    (try with_reducible rfl)
  simp only [Act.put, List.setIfInBounds_toArray, List.set_cons_zero, List.set_cons_succ]
  refine held_take (i := 5) (v := ?_) rfl rfl (by kernel_rfl) (by kernel_rfl) (by kernel_rfl) (fun _ _ _ h => h) (by rfl) hHeld ?_ ?_
  rotate_left
  · rintro wh ⟨z0, z1, z2⟩
    go_simp
    (try with_reducible rfl)
  simp only [Act.put, List.setIfInBounds_toArray, List.set_cons_zero, List.set_cons_succ]
  refine held_take (i := 6) (v := ?_) rfl rfl (by kernel_rfl) (by kernel_rfl) (by kernel_rfl) (fun _ _ _ h => h) (by rfl) hHeld ?_ ?_
  rotate_left
  · rintro wh ⟨z0, z1, z2⟩
    go_simp
    (try with_reducible rfl)
  simp only [Act.put, List.setIfInBounds_toArray, List.set_cons_zero, List.set_cons_succ]
  refine held_take (i := 7) (v := ?_) rfl rfl (by kernel_rfl) (by kernel_rfl) (by kernel_rfl) (fun _ _ _ h => h) (by rfl) hHeld ?_ ?_
  rotate_left
  · rintro wh ⟨z0, z1, z2⟩
    go_simp
    (try with_reducible rfl)
  simp only [Act.put, List.setIfInBounds_toArray, List.set_cons_zero, List.set_cons_succ]
  refine held_take (i := 8) (v := ?_) rfl rfl (by kernel_rfl) (by kernel_rfl) (by kernel_rfl) (fun _ _ _ h => h) (by rfl) hHeld ?_ ?_
  rotate_left
  · rintro wh ⟨z0, z1, z2⟩
    go_simp
    (try with_reducible rfl)
  simp only [Act.put, List.setIfInBounds_toArray, List.set_cons_zero, List.set_cons_succ]
  refine held_take (i := 9) (v := ?_) rfl rfl (by kernel_rfl) (by kernel_rfl) (by kernel_rfl) (fun _ _ _ h => h) (by rfl) hHeld ?_ ?_
  rotate_left
  · rintro wh ⟨z0, z1, z2⟩
    go_simp
    (try with_reducible rfl)
  simp only [Act.put, List.setIfInBounds_toArray, List.set_cons_zero, List.set_cons_succ]
  refine held_take (i := 10) (v := ?_) rfl rfl (by kernel_rfl) (by kernel_rfl) (by kernel_rfl) (fun _ _ _ h => h) (by rfl) hHeld ?_ ?_
  rotate_left
  · rintro wh ⟨z0, z1, z2⟩
    go_simp
    (try with_reducible rfl)
  simp only [Act.put, List.setIfInBounds_toArray, List.set_cons_zero, List.set_cons_succ]
  refine held_take (i := 11) (v := ?_) rfl rfl (by kernel_rfl) (by kernel_rfl) (by kernel_rfl) (fun _ _ _ h => h) (by rfl) hHeld ?_ ?_
  rotate_left
  · rintro wh ⟨z0, z1, z2⟩
    go_simp
    (try with_reducible rfl)
  simp only [Act.put, List.setIfInBounds_toArray, List.set_cons_zero, List.set_cons_succ]
  refine held_take (i := 12) (v := ?_) rfl rfl (by kernel_rfl) (by kernel_rfl) (by kernel_rfl) (fun _ _ _ h => h) (by rfl) hHeld ?_ ?_
  rotate_left
  · rintro wh ⟨z0, z1, z2⟩
    go_simp
    (try with_reducible rfl)
  simp only [Act.put, List.setIfInBounds_toArray, List.set_cons_zero, List.set_cons_succ]
  refine held_take (i := 13) (v := ?_) rfl rfl (by kernel_rfl) (by kernel_rfl) (by kernel_rfl) (fun _ _ _ h => h) (by rfl) hHeld ?_ ?_
  rotate_left
  · rintro wh ⟨z0, z1, z2⟩
    go_simp
    (try with_reducible rfl)
  simp only [Act.put, List.setIfInBounds_toArray, List.set_cons_zero, List.set_cons_succ]
  refine held_take (i := 14) (v := ?_) rfl rfl (by kernel_rfl) (by kernel_rfl) (by kernel_rfl) (fun _ _ _ h => h) (by rfl) hHeld ?_ ?_
  rotate_left
  · rintro wh ⟨z0, z1, z2⟩
    go_simp
    (try with_reducible rfl)
  simp only [Act.put, List.setIfInBounds_toArray, List.set_cons_zero, List.set_cons_succ]
  refine held_take (i := 15) (v := ?_) rfl rfl (by kernel_rfl) (by kernel_rfl) (by kernel_rfl) (fun _ _ _ h => h) (by rfl) hHeld ?_ ?_
  rotate_left
  · rintro wh ⟨z0, z1, z2⟩
    go_simp
    (try with_reducible rfl)
  simp only [Act.put, List.setIfInBounds_toArray, List.set_cons_zero, List.set_cons_succ]
  refine held_take (i := 16) (v := ?_) rfl rfl (by kernel_rfl) (by kernel_rfl) (by kernel_rfl) (fun _ _ _ h => h) (by rfl) hHeld ?_ ?_
  rotate_left
  · rintro wh ⟨z0, z1, z2⟩
    go_simp
    (try with_reducible rfl)
  simp only [Act.put, List.setIfInBounds_toArray, List.set_cons_zero, List.set_cons_succ]
  refine held_step (i := 17) rfl (by kernel_rfl) (fun K hK => ?_)
  go_simp
  refine hK.out _ _ ⟨(World.cell?_setCell_far wd ⟨r, n * 3, none⟩ _ (.pointer (some ⟨k, 0, none⟩)) hrg).trans c3, (World.cell?_setCell_far wd ⟨r, n * 3, none⟩ _ (.pointer (some ⟨k, 0, none⟩)) hrp).trans p0, (World.cell?_setCell_far wd ⟨r, n * 3, none⟩ _ (.pointer (some ⟨k, 0, none⟩)) hrp).trans p1⟩ (fun hHeld => ?_)
  clear hK K
  (try simp only [Act.put, List.setIfInBounds_toArray])
  refine held_take (i := 18) (v := ?_) rfl rfl (by kernel_rfl) (by kernel_rfl) (by kernel_rfl) (fun _ _ _ h => h) (by rfl) hHeld ?_ ?_
  rotate_left
  · rintro wh ⟨z0, z1, z2⟩
    go_simp
    (try with_reducible rfl)
  simp only [Act.put, List.setIfInBounds_toArray, List.set_cons_zero, List.set_cons_succ]
  refine held_take (i := 19) (v := ?_) rfl rfl (by kernel_rfl) (by kernel_rfl) (by kernel_rfl) (fun _ _ _ h => h) (by rfl) hHeld ?_ ?_
  rotate_left
  · rintro wh ⟨z0, z1, z2⟩
    go_simp
    (try with_reducible rfl)
  simp only [Act.put, List.setIfInBounds_toArray, List.set_cons_zero, List.set_cons_succ]
  refine held_step (i := 20) rfl (by kernel_rfl) (fun K hK => ?_)
  go_simp
  refine hK.out _ _ ⟨(World.cell?_setCell_far _ ⟨r, n * 3 + 1, none⟩ _ (.int .i64 ((n + 1 : Nat) : Int)) hrg).trans hHeld.1, (World.cell?_setCell_far _ ⟨r, n * 3 + 1, none⟩ _ (.int .i64 ((n + 1 : Nat) : Int)) hrp).trans hHeld.2.1, (World.cell?_setCell_far _ ⟨r, n * 3 + 1, none⟩ _ (.int .i64 ((n + 1 : Nat) : Int)) hrp).trans hHeld.2.2⟩ (fun hHeld => ?_)
  clear hK K
  (try simp only [Act.put, List.setIfInBounds_toArray])
  refine wpAnyH_done (by kernel_rfl) ?_ _
  clear hHeld
  have hW4 := HVD.out.bytes (f := n) (n := n + 1) HXN.out HE0.out HSD.out hk2 (r := r) rfl
  have HW4 := Lib.hid hW4
  have hkp4 : Keep own w ((wd.setCell ⟨r, n * 3, none⟩ (.pointer (some ⟨k, 0, none⟩))).setCell ⟨r, n * 3 + 1, none⟩ (.int .i64 ((n + 1 : Nat) : Int))) := by
    have hk : ∀ (W : World) (a : Addr) (v : Value), Keep own w W → a.block = r → Keep own w (W.setCell a v) := fun W a v h e =>
      ⟨h.os, h.tape, h.output, by simpa using h.size, fun j hj hn => (heap_setCell_other W a j v (fun e' => by rcases HR2.out with h1 | h1; (· exact hn (by rw [e', e]; exact h1)); (· omega))).trans (h.block j hj hn)⟩
    exact hk _ _ _ (hk _ _ _ HKP.out rfl) rfl
  have hrb4 : ((wd.setCell ⟨r, n * 3, none⟩ (.pointer (some ⟨k, 0, none⟩))).setCell ⟨r, n * 3 + 1, none⟩ (.int .i64 ((n + 1 : Nat) : Int))).heap[w.heap.size]? = some (.cells #[.int .i64 0, .int .i64 0] 192 (0, 0)) :=
    ((heap_setCell_other _ _ _ _ hrw).trans (heap_setCell_other _ _ _ _ hrw)).trans HRB.out
  have p0 : ((wd.setCell ⟨r, n * 3, none⟩ (.pointer (some ⟨k, 0, none⟩))).setCell ⟨r, n * 3 + 1, none⟩ (.int .i64 ((n + 1 : Nat) : Int))).cell? ⟨pb, 0, none⟩ = some (.int .i64 n) := (World.cell?_setCell_far _ _ _ _ hrp).trans ((World.cell?_setCell_far _ _ _ _ hrp).trans p0)
  have p1 : ((wd.setCell ⟨r, n * 3, none⟩ (.pointer (some ⟨k, 0, none⟩))).setCell ⟨r, n * 3 + 1, none⟩ (.int .i64 ((n + 1 : Nat) : Int))).cell? ⟨pb, 1, none⟩ = some (.int .i64 ((n + 1 : Nat) : Int)) := (World.cell?_setCell_far _ _ _ _ hrp).trans ((World.cell?_setCell_far _ _ _ _ hrp).trans p1)
  change Exit.then _ _ Exit.normal _ ((wd.setCell ⟨r, n * 3, none⟩ (.pointer (some ⟨k, 0, none⟩))).setCell ⟨r, n * 3 + 1, none⟩ (.int .i64 ((n + 1 : Nat) : Int)))
  clear hW4 c3 cf0 cf1 ff0 ff1
  generalize (wd.setCell ⟨r, n * 3, none⟩ (.pointer (some ⟨k, 0, none⟩))).setCell ⟨r, n * 3 + 1, none⟩ (.int .i64 ((n + 1 : Nat) : Int)) = w4 at *
  have r0 : w4.cell? ⟨w.heap.size, 0, none⟩ = some (.int .i64 0) := by rw [cell_of_row _ _ _ _ _ _ hrb4]; rfl
  have r1 : w4.cell? ⟨w.heap.size, 1, none⟩ = some (.int .i64 0) := by rw [cell_of_row _ _ _ _ _ _ hrb4]; rfl
  have rf0 := frozen_of_row w4 w.heap.size 0 _ _ hrb4
  have rf1 := frozen_of_row w4 w.heap.size 1 _ _ hrb4
  have HRB4 := Lib.hid hrb4
  have HKP4 := Lib.hid hkp4
  clear hrb4 hkp4
  go_wp2
  refine bodyPost_ret (results_agg1 rfl _ _ w.heap.size [.int .i64 n, .int .i64 ((n + 1 : Nat) : Int)] (.struct _) rfl (World.rangeAt_setCells_same w4 w.heap.size 0 [.int .i64 n, .int .i64 ((n + 1 : Nat) : Int)] (part_there HRB4.out)) Tryz.underlying192 rfl (by kernel_rfl)) rfl ?_
  have hne : ¬ (own2 w.heap.size ∨ w.heap.size = k) := fun h0 => by
    rcases h0 with h0 | h0
    · exact hnr2 h0
    · have := hS.lt; omega
  refine ⟨by rw [← HNN.out]; rfl, (fun j => own2 j ∨ j = k), ?_, ?_, ?_⟩
  · have h5 : Bld w4 g s { nodeM (nodeM b) with sts := (nodeM (nodeM b)).sts.set n ⟨some S, n + 1, []⟩ } (fun j => own2 j ∨ j = k) := ⟨_, _, HW4.out⟩
    have h6 := (h5.box (p := ⟨w.heap.size, 0, none⟩) hne (.int .i64 n)).box (p := ⟨w.heap.size, 1, none⟩) hne (.int .i64 ((n + 1 : Nat) : Int))
    have e : (oneM b S).1 = { nodeM (nodeM b) with sts := (nodeM (nodeM b)).sts.set n ⟨some S, n + 1, []⟩ } := by
      rw [← HNN.out]
      simp [oneM, nodeM]
    rw [e]
    exact h6
  · have hk : ∀ (W : World) (j : Nat) (v : Value), Keep own w W → Keep own w (W.setCell ⟨w.heap.size, j, none⟩ v) := fun W j v h =>
      ⟨h.os, h.tape, h.output, by simpa using h.size, fun i hi hn => (heap_setCell_other W _ i v (by simp; omega)).trans (h.block i hi hn)⟩
    exact hk _ _ _ (hk _ _ _ HKP4.out)
  · rintro j (hj | rfl)
    · rcases HOWN.out j hj with h1 | h1
      · exact .inl h1
      · exact .inr (.inr h1)
    · exact .inr (.inl rfl)
end Go.Proofs.YtcfococinllcmaaGreat
