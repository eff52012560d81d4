/- What several claims of this seat share: contracts of the functions that they reach. -/
import Derived.Test.YtgbapkechngnmaaGreatU6DP3
import Derived.Deep.DeepCutAuto
import Derived.Deep.QuietTactic
import Derived.BigQuiet

/- MatchAlls: the law's walk: whatever the arguments, it returns true. No condition. -/
namespace Go.Proofs.YtgbapkechngnmaaGreat
open Go.RowKit
theorem allM_append (l : List Fld) (a b : List Mt) : allM l (a ++ b) = (allM l a && allM l b) := by unfold allM; rw [List.all_append]
theorem allM_nil (l : List Fld) : allM l [] = true := rfl
theorem allM_bad {l : List Fld} {a : List Mt} {m : Mt} (hm : m ∈ a) (hf : fineM m = false) : allM l a = false := by
 unfold allM
 rw [List.all_eq_false]
 exact ⟨m, hm, by unfold fitM; rw [hf]; simp⟩
theorem mtCells_one (l : List Mt) : ∀ y ∈ mtCells l, y.oneCell' = true := by
 induction l with
 | nil => intro y hy; cases hy
 | cons m l ih =>
  intro y hy
  simp only [mtCells, List.mem_cons] at hy
  rcases hy with rfl | rfl | rfl | h
  ·rfl
  ·rfl
  ·rfl
  ·exact ih y h
theorem fewB (l : List Mt) : (fewM l).length ≤ 1000000000000 := Nat.le_trans (fewM_le l) (by decide)
namespace lawAlls
set_option maxHeartbeats 3200000 in
set_option maxRecDepth 100000 in
theorem walk (v0 : Value) (l : List Fld) (v1 : Value) (a0 : List Mt) (v2 : Value) (b0 : List Mt) (w : World) (hv : ArgFlds w v0 l) (ha : ArgMts w v1 a0) (hb : ArgMts w v2 b0) :
  Calls Tryz.prog 6 #[v0, v1, v2] w fun e w' => e = .returned (.bool true) ∧ Below w.heap.size w w' := by
 obtain ⟨i0, hi0, hz0, hz1, hz2⟩ := info_parts info_mt
 have kl := lives6_any w
 have KG := Lib.hid (fun W (h : Below w.heap.size w W) => rgood6_any l W v0 (hv.1.later h) hv.2.2 hv.2.1)
 have KA := Lib.hid (fun W (h : Below w.heap.size w W) => few6_any a0 v1 W (ha.1.later h) ha.2.1)
 have KB := Lib.hid (fun W (h : Below w.heap.size w W) => few6_any b0 v2 W (hb.1.later h) hb.2.1)
 have HFA := Lib.hid (fewM_fit ha.2.2)
 have HFB := Lib.hid (fewM_fit hb.2.2)
 clear hv ha hb
 go_enter Tryz.func6, Tryz.ntmps6
 go_wp2_with fail
 refine kl.mono ?_
 rintro e w1 ⟨rfl, hb1⟩
 have HB1 := Lib.hid hb1
 have kg := KG.out w1 hb1
 clear kl hb1 KG
 go_wp2_with fail
 refine kg.mono ?_
 rintro e w2 ⟨gv, rfl, hgv, hgf, hgr, _, hb2⟩
 have HB2 := Lib.hid (HB1.out.trans (hb2.mono HB1.out.size))
 have HG2 := Lib.hid hgv
 have HGF := Lib.hid hgf
 have HGL := Lib.hid ((right_iff _).1 hgr).1
 have ka := KA.out w2 HB2.out
 clear kg hb2 hgv hgf hgr KA
 generalize goodF l = L at *
 go_wp2_with fail
 refine ka.mono ?_
 rintro e w3 ⟨av, rfl, hao, hb3⟩
 have HB3 := Lib.hid (HB2.out.trans (hb3.mono HB2.out.size))
 have HG3 := Lib.hid (HG2.out.later hb3)
 have HA3 := Lib.hid (RdAt.own hao)
 have kb := KB.out w3 HB3.out
 clear ka hb3 HG2 hao KB
 go_wp2_with fail
 refine kb.mono ?_
 rintro e w4 ⟨bv, rfl, hbo, hb4⟩
 have HB4 := Lib.hid (HB3.out.trans (hb4.mono HB3.out.size))
 have HG4 := Lib.hid (HG3.out.later hb4)
 have HA4 := Lib.hid (RdAt.later HA3.out hb4)
 have HBM4 := Lib.hid (RdAt.own hbo)
 have hal := fewM_le a0
 have hbl := fewM_le b0
 have HAL := Lib.hid (fewB a0)
 have HBL := Lib.hid (fewB b0)
 generalize fewM a0 = A at *
 generalize fewM b0 = C at *
 clear kb hb4 HG3 HA3 hbo
 go_upto_region 5 with (first
  | (at_builtin; (refine wpList_append_rd rfl (.const (.slice none 0 0)) (.tmp 17) 23 rfl w4.heap.size 29 i0 (.agg #[.string ⟨#[]⟩, .int .i64 0, .string ⟨#[]⟩]) 3 40 Tryz.underlying23 hi0 hz0 hz1 hz2 rfl (by decide) (.slice none 0 0) 0 [] rfl (World.ownsRow_nil _ _ _ _) _ A.length (mtCells A) rfl HA4.out (mtCells_one A) (by unfold maxLen; omega) (by omega) (Nat.le_refl _) ?_); intro v5 w5 hown5 hgrow5; have HO5 := Lib.hid hown5; have HB45 := Lib.hid ((Below.refl w4.heap.size w4).grown hgrow5 (Nat.le_refl _) (fun q hq => by cases hq)); clear hown5 hgrow5)
  | (at_builtin; (refine wpList_append_rd rfl (.tmp 18) (.tmp 19) 23 rfl w4.heap.size 29 i0 (.agg #[.string ⟨#[]⟩, .int .i64 0, .string ⟨#[]⟩]) 3 40 Tryz.underlying23 hi0 hz0 hz1 hz2 rfl (by decide) v5 (0 + A.length) ([] ++ mtCells A) rfl HO5.out _ C.length (mtCells C) rfl (RdAt.later HBM4.out HB45.out) (mtCells_one C) (by unfold maxLen; omega) (by omega) HB45.out.size ?_); intro v6 w6 hown6 hgrow6; have HO6 := Lib.hid hown6; have HB46 := Lib.hid (HB45.out.grown hgrow6 HB45.out.size (fun q hq => (HO5.out.lt q hq).1)); clear hown6 hgrow6))
 have HM6 : Hid (MtsAt w6 v6 (A ++ C)) := Lib.hid (by
  have := RdAt.own HO6.out
  unfold MtsAt
  rw [List.length_append, mtCells_append]
  rw [Nat.zero_add, List.nil_append] at this
  exact this)
 have HG6 := Lib.hid (HG4.out.later HB46.out)
 have HA6 := Lib.hid (RdAt.later HA4.out HB46.out)
 have HC6 := Lib.hid (RdAt.later HBM4.out HB46.out)
 have HB6 := Lib.hid (HB4.out.trans (HB46.out.mono HB4.out.size))
 have hLl : L.length ≤ 1000000000000 := by have := HGL.out; omega
 have kAC := fun W (h : Below w6.heap.size w6 W) => all_any L (A ++ C) gv v6 W (HG6.out.later h) hLl HGF.out (RdAt.later HM6.out h) (by rw [List.length_append]; omega) (fun m hm => (List.mem_append.1 hm).elim (HFA.out m) (HFB.out m))
 have kA := fun W (h : Below w6.heap.size w6 W) => all_any L A gv av W (HG6.out.later h) hLl HGF.out (RdAt.later HA6.out h) (by omega) HFA.out
 have kC := fun W (h : Below w6.heap.size w6 W) => all_any L C gv bv W (HG6.out.later h) hLl HGF.out (RdAt.later HC6.out h) (by omega) HFB.out
 have kN := fun W (h : Below w6.heap.size w6 W) => all_any L [] gv (.slice none 0 0) W (HG6.out.later h) hLl HGF.out (RdAt.nil W 3) (Nat.zero_le _) (fun _ h => by cases h)
 simp only [allM_append] at kAC
 simp only [allM_nil] at kN
 have HBAD := Lib.hid (fun m (hm : m ∈ A) (hf : fineM m = false) => allM_bad (l := L) hm hf)
 obtain ⟨pa, hpa⟩ : ∃ p, allM L A = p := ⟨_, rfl⟩
 obtain ⟨pc, hpc⟩ : ∃ p, allM L C = p := ⟨_, rfl⟩
 simp only [hpa, hpc] at kAC kA kC
 rw [hpa] at HBAD
 obtain ⟨ga, gc, rfl, _, _⟩ := RdAt.shape HG6.out
 obtain ⟨aa, ac, rfl, hac, har⟩ := RdAt.shape HA6.out
 obtain ⟨ba, bc, rfl, _, _⟩ := RdAt.shape HC6.out
 obtain ⟨fa, fc, hfv, _, _⟩ := RdAt.shape HM6.out
 rw [List.length_append] at hfv
 subst hfv
 have HAR := Lib.hid har
 have HKA := Lib.hid kA
 clear har hac HO6 HO5 HA4 HBM4 HG4 HB46 HB45 HM6 hpa hpc
 have kfin := fun W (h : Below w6.heap.size w6 W) (m : Mt) (hm : m ∈ A) => mfine_any m W (HFA.out m hm)
 have HFN := Lib.hid kfin
 clear kfin
 go_cut [37] (fun s37 wx => s37 = .bool false ∧ Below w6.heap.size w6 wx)
 case first =>
  cases pa with
  | false =>
   go_wp2_with fail
   refine (kAC _ (Below.refl _ _)).mono ?_
   rintro e w7 ⟨rfl, hb7⟩
   have HB7 := Lib.hid hb7
   clear hb7
   go_wp2_with fail
   refine (kA _ HB7.out).mono ?_
   rintro e w8 ⟨rfl, hb8⟩
   have HB8 := Lib.hid (HB7.out.trans (hb8.mono HB7.out.size))
   clear hb8
   go_wp2_with fail
   refine (kN _ HB8.out).mono ?_
   rintro e w9 ⟨rfl, hb9⟩
   have HB9 := Lib.hid (HB8.out.trans (hb9.mono HB8.out.size))
   clear hb9
   go_wp2
   go_meet
   case rel => exact ⟨rfl, HB9.out⟩
  | true =>
   cases pc with
   | false =>
    go_wp2_with fail
    refine (kAC _ (Below.refl _ _)).mono ?_
    rintro e w7 ⟨rfl, hb7⟩
    have HB7 := Lib.hid hb7
    clear hb7
    go_wp2_with fail
    refine (kA _ HB7.out).mono ?_
    rintro e w8 ⟨rfl, hb8⟩
    have HB8 := Lib.hid (HB7.out.trans (hb8.mono HB7.out.size))
    clear hb8
    go_wp2_with fail
    refine (kC _ HB8.out).mono ?_
    rintro e w9 ⟨rfl, hb9⟩
    have HB9 := Lib.hid (HB8.out.trans (hb9.mono HB8.out.size))
    clear hb9
    go_wp2_with fail
    refine (kN _ HB9.out).mono ?_
    rintro e w10 ⟨rfl, hb10⟩
    have HB10 := Lib.hid (HB9.out.trans (hb10.mono HB9.out.size))
    clear hb10
    go_wp2
    go_meet
    case rel => exact ⟨rfl, HB10.out⟩
   | true =>
    go_wp2_with fail
    refine (kAC _ (Below.refl _ _)).mono ?_
    rintro e w7 ⟨rfl, hb7⟩
    have HB7 := Lib.hid hb7
    clear hb7
    go_wp2_with fail
    refine (kA _ HB7.out).mono ?_
    rintro e w8 ⟨rfl, hb8⟩
    have HB8 := Lib.hid (HB7.out.trans (hb8.mono HB7.out.size))
    clear hb8
    go_wp2_with fail
    refine (kC _ HB8.out).mono ?_
    rintro e w9 ⟨rfl, hb9⟩
    have HB9 := Lib.hid (HB8.out.trans (hb9.mono HB8.out.size))
    clear hb9
    go_wp2_with fail
    refine (kN _ HB9.out).mono ?_
    rintro e w10 ⟨rfl, hb10⟩
    have HB10 := Lib.hid (HB9.out.trans (hb10.mono HB9.out.size))
    clear hb10
    go_wp2
    go_meet
    case rel => exact ⟨rfl, HB10.out⟩
 case rest =>
  obtain ⟨rfl, hcw⟩ := hcut
  have HCW := Lib.hid hcw
  clear kAC kA kC kN hcw
  go_wp2_with fail
  go_loopw [8] (fun v wr => ∃ k : Nat, v = .int .i64 k ∧ k ≤ A.length ∧ Hid (Below w6.heap.size w6 wr)) (fun v _ => A.length - (intOf v).toNat)
  case atStart => exact ⟨0, rfl, Nat.zero_le _, HCW⟩
  case round =>
   clear HCW
   obtain ⟨k, rfl, hk, HB⟩ := hrel
   by_cases hkl : k < A.length
   ·have hkl' : (k : Int) < (A.length : Int) := by omega
    have hk0 : (0 : Int) ≤ (k : Int) := by omega
    obtain ⟨g, o, rfl, hg, hcell⟩ := HAR.out (by omega)
    obtain ⟨x, hx⟩ : ∃ x, A[k] = x := ⟨_, rfl⟩
    have hmem : x ∈ A := by rw [← hx]; exact List.getElem_mem hkl
    obtain ⟨q0, q1, q2⟩ := mtCells_at A k hkl
    rw [hx] at q0 q1 q2
    have p0 := keep_cell (hcell _ _ q0) HB.out hg
    have p1 := keep_cell (hcell _ _ q1) HB.out hg
    have p2 := keep_cell (hcell _ _ q2) HB.out hg
    rw [← Nat.add_assoc] at p1 p2
    have kf := HFN.out wr HB.out x hmem
    have HBX := Lib.hid (HBAD.out x hmem)
    have kA := HKA.out
    clear hx q0 q1 q2 hcell hmem
    obtain ⟨nm, op, val⟩ := x
    dsimp only at *
    obtain ⟨F, hF⟩ : ∃ F, fineM ⟨nm, op, val⟩ = F := ⟨_, rfl⟩
    rw [hF] at kf HBX
    clear hF
    cases F with
    | true =>
     go_wp2_with fail
     refine kf.mono ?_
     rintro e w9 ⟨rfl, hb9⟩
     have HB9 := Lib.hid (HB.out.trans (hb9.mono HB.out.size))
     clear kf hb9 kA
     go_wp2
     go_roundw
     case rel => exact ⟨k + 1, by go_num, by omega, HB9⟩
     case measure => (simp [intOf]; try omega)
    | false =>
     obtain rfl : pa = false := HBX.out rfl
     go_wp2_with fail
     refine kf.mono ?_
     rintro e w9 ⟨rfl, hb9⟩
     have HB9 := Lib.hid (HB.out.trans (hb9.mono HB.out.size))
     have kA := kA w9 HB9.out
     clear kf hb9
     go_wp2_with fail
     refine kA.mono ?_
     rintro e w10 ⟨rfl, hb10⟩
     have HB10 := Lib.hid (HB9.out.trans (hb10.mono HB9.out.size))
     clear kA hb10
     go_wp2
     go_roundw
     case rel => exact ⟨k + 1, by go_num, by omega, HB10⟩
     case measure => (simp [intOf]; try omega)
   ·have hkl' : ¬ (k : Int) < (A.length : Int) := by omega
    have HE := Lib.hid (HB6.out.trans (HB.out.mono HB6.out.size))
    go_wp2
    go_ret
    exact ⟨rfl, HE.out⟩
end lawAlls
end Go.Proofs.YtgbapkechngnmaaGreat
/- The argument of MatchTurns: a matcher. -/
namespace Go.Proofs.YtgbapkechngnmaaGreat
open Go.RowKit Go.WideShapes Go.ChangeShapes Go.Deep
def ArgMt (v : Value) (x : Mt) : Prop := v = .agg #[.string x.nm, .int .i64 x.op, .string x.val] ∧ MtFit x
end Go.Proofs.YtgbapkechngnmaaGreat
/- strings.Builder: WriteByte, with a frame that keeps one block more: a contract. -/
namespace Go.Proofs.YtgbapkechngnmaaGreat
open Go.RowKit
def BA (b k0 : Nat) (bs : List Value) (w : World) : Prop := ∃ p v, w.heap[b]? = some (.cells #[p, v] 114 (0, 0)) ∧ (p = .pointer none ∨ p = .pointer (some ⟨b, 0, none⟩)) ∧ w.ownsRow b 5 1 v bs.length bs ∧ v.ownBlock ≠ some b ∧ v.ownBlock ≠ some k0
theorem BA.below {b k0 : Nat} {bs : List Value} {w w' : World} (h : BA b k0 bs w) (hb : Below w.heap.size w w') : BA b k0 bs w' := by
 obtain ⟨p, v, h1, h2, h3, h4, h5⟩ := h
 exact ⟨p, v, (hb.block b (Array.getElem?_eq_some_iff.1 h1).1).trans h1, h2, ownsRow_below h3 hb, h4, h5⟩
end Go.Proofs.YtgbapkechngnmaaGreat
/- pattern.Quote: a contract. -/
namespace Go.Proofs.YtgbapkechngnmaaGreat
open Go.RowKit
def quoteM (l : List Nat) : List Nat := l.flatMap fun c => if oddB c = true then [92, c] else [c]
def quoteB (s : ByteArray) : ByteArray := ⟨((quoteM (bytesN s)).map UInt8.ofNat).toArray⟩
theorem quoteM_len : ∀ l : List Nat, (quoteM l).length ≤ 2 * l.length
 | [] => Nat.le_refl _
 | c :: l => by
  have := quoteM_len l
  unfold quoteM at this ⊢
  rw [List.flatMap_cons, List.length_append, List.length_cons]
  split
  ·simp only [List.length_cons, List.length_nil]; omega
  ·simp only [List.length_cons, List.length_nil]; omega
theorem quoteM_lt {l : List Nat} (h : ∀ c ∈ l, c < 256) : ∀ c ∈ quoteM l, c < 256 := by
 intro c hc
 obtain ⟨x, hx, h1⟩ := List.mem_flatMap.1 hc
 split at h1
 ·simp at h1
  rcases h1 with rfl | rfl
  ·omega
  ·exact h _ hx
 ·rw [List.mem_singleton.1 h1]; exact h _ hx
theorem quoteM_take {l : List Nat} {k : Nat} (hk : k < l.length) : quoteM (l.take (k + 1)) = quoteM (l.take k) ++ (if oddB l[k] = true then [92, l[k]] else [l[k]]) := by
 unfold quoteM
 rw [List.take_succ_eq_append_getElem hk, List.flatMap_append]; simp
theorem bytesN_getD (s : ByteArray) {j : Nat} (h : j < s.size) : (bytesN s).getD j 0 = (s.data.toList.getD j 0).toNat := by
 have hb : j < (bytesN s).length := by rw [bytesN_len]; exact h
 have hb2 : j < s.data.toList.length := by simpa using h
 rw [List.getD_eq_getElem?_getD, List.getElem?_eq_getElem hb, List.getD_eq_getElem?_getD, List.getElem?_eq_getElem hb2]
 simp [bytesN, B]
theorem quoteB_bytes (s : ByteArray) : bytesN (quoteB s) = quoteM (bytesN s) := (chr_bytes (quoteM_lt (fun _ hc => bytesN_lt hc))).2
end Go.Proofs.YtgbapkechngnmaaGreat
/- What is quoted fits itself alone. No program in sight. -/
namespace Go.Proofs.YtgbapkechngnmaaGreat
theorem byteM_bytesN {q : ByteArray} {k c : Nat} {l : List Nat} (h : (bytesN q).drop k = c :: l) : k < q.size ∧ byteM q k = c ∧ (bytesN q).drop (k + 1) = l := by
 have hk : k < (bytesN q).length := by
  rcases Nat.lt_or_ge k (bytesN q).length with h1 | h1
  ·exact h1
  ·rw [List.drop_eq_nil_of_le h1] at h; cases h
 have hk' : k < q.size := by rw [← bytesN_len]; exact hk
 rw [List.drop_eq_getElem_cons hk] at h
 injection h with h1 h2
 refine ⟨hk', ?_, h2⟩
 rw [← h1]
 unfold byteM
 rw [dif_pos hk']
 simp [bytesN, B]
 rfl
theorem peekM_at {q : ByteArray} {b : Bs} {c : Nat} {l : List Nat} (he : b.err = 0) (h : (bytesN q).drop b.pos = c :: l) : peekM q b = some c := by
 obtain ⟨h1, h2, _⟩ := byteM_bytesN h
 unfold peekM
 rw [if_pos ⟨he, h1⟩, h2]
theorem peekM_end {q : ByteArray} {b : Bs} (h : (bytesN q).drop b.pos = []) : peekM q b = none := by
 have h1 := List.drop_eq_nil_iff.1 h
 rw [bytesN_len] at h1
 unfold peekM
 rw [if_neg (by omega)]
theorem oneS_iff {c d : Nat} : oneS c d = true ↔ d = c := by
 simp only [oneS, addS, noS, Bool.false_or, Bool.and_eq_true, decide_eq_true_eq]; omega
theorem oddB_false {c : Nat} (h : oddB c = false) : postB c = false ∧ c ≠ 124 ∧ c ≠ 40 ∧ c ≠ 41 ∧ c ≠ 91 ∧ c ≠ 93 ∧ c ≠ 92 ∧ c ≠ 46 := by
 simp only [oddB, Bool.or_eq_false_iff, decide_eq_false_iff_not] at h
 obtain ⟨⟨⟨⟨⟨⟨⟨h0, h1⟩, h2⟩, h3⟩, h4⟩, h5⟩, h6⟩, h7⟩ := h
 exact ⟨h0, h1, h2, h3, h4, h5, h6, h7⟩
theorem quote_head (l : List Nat) : quoteM l = [] ∨ ∃ c r, quoteM l = c :: r ∧ postB c = false ∧ c ≠ 124 := by
 cases l with
 | nil => exact .inl rfl
 | cons c l =>
  right
  unfold quoteM
  rw [List.flatMap_cons]
  cases h : oddB c with
  | true => exact ⟨92, _, rfl, by decide, by decide⟩
  | false => exact ⟨c, _, rfl, (oddB_false h).1, (oddB_false h).2.1⟩
theorem times_quote {q : ByteArray} {b : Bs} {l : List Nat} (he : b.err = 0) (h : (bytesN q).drop b.pos = quoteM l) (x : Nat × Nat) (a : Re) : timesM q b x = (b, x) ∧ timesR q b a = a := by
 rcases quote_head l with h1 | ⟨c, r, h1, h2, _⟩
 ·rw [h1] at h
  have := peekM_end h
  unfold timesM timesR
  rw [this]
  exact ⟨rfl, rfl⟩
 ·rw [h1] at h
  have := peekM_at he h
  unfold timesM timesR
  rw [this]
  have h3 : c ≠ 42 ∧ c ≠ 43 ∧ c ≠ 63 := by simp only [postB, Bool.or_eq_false_iff, decide_eq_false_iff_not] at h2; omega
  refine ⟨if_neg (by rw [h2]; simp), ?_⟩
  dsimp only
  rw [if_neg h3.1, if_neg h3.2.1, if_neg h3.2.2]
theorem atom_quote {q : ByteArray} {n d : Nat} {b : Bs} {c : Nat} {l : List Nat} (he : b.err = 0) (h : (bytesN q).drop b.pos = quoteM (c :: l)) :
  ∃ k sts p, runM q (n + 1) .atom d b = (⟨k, 0, sts⟩, p) ∧ (bytesN q).drop k = quoteM l ∧ k ≤ q.size ∧ b.pos < k ∧ reM q (n + 1) .atom .no d b = .set (oneS c) ∧ ∃ e, peekM q b = some e ∧ e ≠ 124 ∧ e ≠ 41 := by
 have e : quoteM (c :: l) = (if oddB c = true then [92, c] else [c]) ++ quoteM l := by unfold quoteM; rw [List.flatMap_cons]
 rw [e] at h
 obtain ⟨pos, err, sts⟩ := b
 dsimp only at he h
 subst he
 cases ho : oddB c with
 | true =>
  rw [ho, if_pos rfl] at h
  obtain ⟨h1, h2, h3⟩ := byteM_bytesN (q := q) h
  obtain ⟨h4, h5, h6⟩ := byteM_bytesN (q := q) h3
  have hp : peekM q ⟨pos, 0, sts⟩ = some 92 := peekM_at rfl h
  have hp2 : peekM q (stepM ⟨pos, 0, sts⟩) = some c := peekM_at (b := stepM ⟨pos, 0, sts⟩) rfl h3
  rw [runM, reM]
  dsimp only
  rw [h2]
  rw [if_neg (by decide), if_neg (by decide), if_neg (by decide), if_pos rfl, if_neg (by decide), if_neg (by decide), if_neg (by decide), if_pos rfl, hp2]
  exact ⟨_, _, _, rfl, h6, h4, by show pos < pos + 1 + 1; omega, rfl, 92, hp, by decide, by decide⟩
 | false =>
  rw [ho, if_neg (by decide)] at h
  obtain ⟨h1, h2, h3⟩ := byteM_bytesN (q := q) h
  obtain ⟨o1, o2, o3, o4, o5, o6, o7, o8⟩ := oddB_false ho
  have hp : peekM q ⟨pos, 0, sts⟩ = some c := peekM_at rfl h
  rw [runM, reM]
  dsimp only
  rw [h2]
  rw [if_neg o3, if_neg o5, if_neg o8, if_neg o7, if_neg (by rw [ho]; decide), if_neg o3, if_neg o5, if_neg o8, if_neg o7, if_neg (by rw [ho]; decide)]
  exact ⟨_, _, _, rfl, h3, h1, by show pos < pos + 1; omega, rfl, c, hp, o2, o4⟩
theorem parts_quote {q : ByteArray} : ∀ (l : List Nat) (n d : Nat) (b : Bs) (p : Nat × Nat) (acc : Re), b.err = 0 → b.pos ≤ q.size → (bytesN q).drop b.pos = quoteM l → l.length + 2 ≤ n →
  (runM q n (.parts p) d b).1.pos = q.size ∧ (runM q n (.parts p) d b).1.err = 0 ∧ ∀ cs, Lr (reM q n (.parts p) acc d b) cs ↔ ∃ x, Lr acc x ∧ cs = x ++ l
 | [], n, d, b, p, acc, he, hk, h, hn => by
  obtain ⟨n, rfl⟩ : ∃ m, n = m + 1 := ⟨n - 1, by omega⟩
  have hp := peekM_end h
  have hq : q.size ≤ b.pos := by have := List.drop_eq_nil_iff.1 h; rwa [bytesN_len] at this
  rw [runM, reM, hp]
  exact ⟨by dsimp only; omega, he, fun cs => ⟨fun h => ⟨cs, h, (List.append_nil cs).symm⟩, fun ⟨x, h, e⟩ => by rw [e, List.append_nil]; exact h⟩⟩
 | c :: l, n, d, b, p, acc, he, hk, h, hn => by
  obtain ⟨n, rfl⟩ : ∃ m, n = m + 2 := ⟨n - 2, by simp at hn; omega⟩
  obtain ⟨k, sts, pp, h1, h2, h3, h3', h4, e, h5, h6, h7⟩ := atom_quote (n := n) (d := d) he h
  have ht := fun x a => times_quote (b := ⟨k, 0, sts⟩) rfl h2 x a
  have ih := parts_quote l (n + 1) d (freeM ⟨k, 0, sts⟩ p.2 pp.1) (p.1, pp.2) (.cat acc (.set (oneS c))) rfl h3 h2 (by simp at hn; omega)
  rw [runM, reM, h5]
  dsimp only
  rw [if_neg (by omega), if_neg (by omega), h1, h4]
  dsimp only
  rw [(ht pp (.set (oneS c))).1, (ht pp (.set (oneS c))).2]
  refine ⟨ih.1, ih.2.1, fun cs => (ih.2.2 cs).trans ⟨?_, ?_⟩⟩
  ·rintro ⟨x, h8, rfl⟩
   cases h8 with
   | cat h8 h9 =>
    cases h9 with
    | set h9 =>
     rename_i y d'
     rw [oneS_iff.1 h9]
     exact ⟨y, h8, by simp⟩
  ·rintro ⟨x, h8, rfl⟩
   exact ⟨x ++ [c], .cat h8 (.set (oneS_iff.2 rfl)), by simp⟩
theorem bytes_quote (s : ByteArray) : bytesN (quoteB s) = quoteM (bytesN s) := quoteB_bytes s
theorem bytesN_le_quote (l : List Nat) : l.length ≤ (quoteM l).length := by
 induction l with
 | nil => exact Nat.le_refl _
 | cons c l ih =>
  unfold quoteM at ih ⊢
  rw [List.flatMap_cons, List.length_append, List.length_cons]
  split
  ·simp only [List.length_cons, List.length_nil]; omega
  ·simp only [List.length_cons, List.length_nil]; omega
theorem quote_run (s : ByteArray) : (runR (quoteB s)).1.pos = (quoteB s).size ∧ (runR (quoteB s)).1.err = 0 ∧ ∀ cs, Lr (reT (quoteB s)) cs ↔ cs = bytesN s := by
 have hq := bytes_quote s
 have hl : (bytesN s).length ≤ (quoteB s).size := by rw [← bytesN_len (quoteB s), hq]; exact bytesN_le_quote _
 unfold runR reT
 generalize hqe : quoteB s = q at *
 obtain ⟨n, hn⟩ : ∃ n, 8 * q.size + 5 = n + 3 := ⟨8 * q.size + 2, rfl⟩
 rw [hn]
 have hb : (nodeM (nodeM bs0)).err = 0 := rfl
 have h := parts_quote (q := q) (bytesN s) n 0 (nodeM (nodeM (nodeM bs0))) ((nodeM (nodeM bs0)).sts.length, (nodeM (nodeM bs0)).sts.length) .eps rfl (Nat.zero_le _) (by rw [show (nodeM (nodeM (nodeM bs0))).pos = 0 from rfl, List.drop_zero]; exact hq) (by omega)
 obtain ⟨h1, h2, h3⟩ := h
 have hpk : ∀ f t f' t', peekM q (freeM (freeM (runM q n (.parts ((nodeM (nodeM bs0)).sts.length, (nodeM (nodeM bs0)).sts.length)) 0 (nodeM (nodeM (nodeM bs0)))).1 f t) f' t') = none := fun f t f' t' => by
  unfold peekM
  rw [if_neg (by simp only [freeM]; omega)]
 have r1 : runM q (n + 1) .row 0 (nodeM (nodeM bs0)) = runM q n (.parts ((nodeM (nodeM bs0)).sts.length, (nodeM (nodeM bs0)).sts.length)) 0 (nodeM (nodeM (nodeM bs0))) := by rw [runM]
 have r2 : reM q (n + 1) .row .no 0 (nodeM (nodeM bs0)) = reM q n (.parts ((nodeM (nodeM bs0)).sts.length, (nodeM (nodeM bs0)).sts.length)) .eps 0 (nodeM (nodeM (nodeM bs0))) := by rw [reM]
 rw [runM, reM, runM, reM, r1, r2]
 dsimp only
 rw [hpk]
 refine ⟨?_, ?_, fun cs => ?_⟩
 ·rw [if_neg (by simp)]; exact h1
 ·rw [if_neg (by simp)]; exact h2
 ·rw [if_neg (by simp)]
  constructor
  ·intro h4
   cases h4 with
   | altl h5 => cases h5
   | altr h5 =>
    obtain ⟨x, h6, rfl⟩ := (h3 _).1 h5
    cases h6
    rfl
  ·rintro rfl
   exact .altr ((h3 _).2 ⟨[], .eps, rfl⟩)
theorem quote_err (s : ByteArray) : errM (quoteB s) = if 100 < (quoteB s).size then 4 else 0 := by
 obtain ⟨h1, h2, _⟩ := quote_run s
 unfold errM
 split
 ·rfl
 ·unfold endR
  rw [if_neg (by omega)]
  exact h2
theorem quote_fits (s t : ByteArray) (h : (quoteB s).size ≤ 100) : FitsP (quoteB s) t ↔ bytesN t = bytesN s := by
 rw [fits_re, (quote_run s).2.2, quote_err, if_neg (by omega)]
 exact ⟨fun h => h.2, fun h => ⟨rfl, h⟩⟩
end Go.Proofs.YtgbapkechngnmaaGreat
/- lychgateref05.Quote: a contract. -/
namespace Go.Proofs.YtgbapkechngnmaaGreat
open Go.RowKit
def oddL : List Nat := [42, 43, 63, 124, 40, 41, 91, 93, 92, 46]
def chrB (l : List Nat) : ByteArray := ⟨(l.map UInt8.ofNat).toArray⟩
def escN (c k : Nat) : List Nat := ((oddL.take k).filter fun d => decide (d = c)).map fun _ => 92
theorem chrB_app (a b : List Nat) : chrB (a ++ b) = chrB a ++ chrB b := by
 apply ByteArray.ext
 rw [ByteArray.data_append]
 simp [chrB]
theorem quoteB_chr (s : ByteArray) : quoteB s = chrB (quoteM (bytesN s)) := rfl
theorem escN_succ {c k : Nat} (h : k < 10) : escN c (k + 1) = escN c k ++ (if oddL.getD k 0 = c then [92] else []) := by
 have hk : k < oddL.length := h
 unfold escN
 rw [List.take_succ_eq_append_getElem hk, List.filter_append, List.map_append, List.getD_eq_getElem?_getD, List.getElem?_eq_getElem hk]
 congr 1
 simp only [Option.getD_some]
 by_cases h : oddL[k] = c <;> simp [h]
theorem escN_all {c : Nat} (hc : c < 256) : escN c 10 = if oddB c = true then [92] else [] := by
 have : ∀ c : Fin 256, escN c.val 10 = if oddB c.val = true then [92] else [] := by decide +kernel
 exact this ⟨c, hc⟩
theorem odd_at (k : Nat) (h : k < 10) : ((⟨#[42, 43, 63, 124, 40, 41, 91, 93, 92, 46]⟩ : ByteArray)[k]'h).toNat = oddL.getD k 0 := by
 have : ∀ k : Fin 10, ((⟨#[42, 43, 63, 124, 40, 41, 91, 93, 92, 46]⟩ : ByteArray)[k.val]'k.isLt).toNat = oddL.getD k.val 0 := by decide +kernel
 exact this ⟨k, h⟩
theorem one_piece (s : ByteArray) {i : Nat} (h : i < s.size) : s.extract i (i + 1) = chrB [(bytesN s).getD i 0] := by
 apply ByteArray.ext
 apply Array.toList_inj.1
 rw [ByteArray.data_extract, Array.toList_extract, List.extract_eq_take_drop, Nat.add_sub_cancel_left]
 have hb : i < s.data.toList.length := by simpa using h
 rw [List.drop_eq_getElem_cons hb, bytesN_getD s h]
 simp [chrB, List.getD_eq_getElem?_getD, List.getElem?_eq_getElem hb]
theorem chrB_size (l : List Nat) : (chrB l).size = l.length := by
 show (l.map UInt8.ofNat).toArray.size = l.length; simp
theorem chr_le {q : List Nat} {c : Nat} (j : Nat) (h : q.length ≤ 200000) : (chrB (q ++ escN c j)).size ≤ 200010 := by
 rw [chrB_size, List.length_append]
 have h1 : (escN c j).length ≤ 10 := by
  unfold escN
  rw [List.length_map]
  exact Nat.le_trans (List.length_filter_le _ _) (Nat.le_trans (List.length_take_le' _ _) (by decide))
 omega
set_option maxHeartbeats 3200000 in
set_option maxRecDepth 100000 in
theorem refquote_is (s : ByteArray) (w : World) (hs : s.size ≤ 100000) : Calls Tryz.prog 24 #[.string s] w fun e w' => e = .returned (.string (quoteB s)) ∧ Below w.heap.size w w' := by
 go_enter Tryz.func24, Tryz.ntmps24
 go_upto_region 3 with fail
 go_loopw [3, 4, 5, 6] (fun vo vi _ _ wr => ∃ k : Nat, k ≤ s.size ∧ vi = .int .i64 k ∧ vo = .string (chrB (quoteM ((bytesN s).take k))) ∧ Hid (Below w.heap.size w wr)) (fun _ vi _ _ _ => s.size - (intOf vi).toNat)
 case atStart => exact ⟨0, Nat.zero_le _, rfl, rfl, Lib.hid (Below.refl _ _)⟩
 case round =>
  obtain ⟨k, hk, rfl, rfl, HB⟩ := hrel
  by_cases hks : k < s.size
  ·have hkb : k < (bytesN s).length := by rw [bytesN_len]; exact hks
   obtain ⟨c, hce⟩ : ∃ c, (bytesN s).getD k 0 = c := ⟨_, rfl⟩
   have hce2 : (bytesN s)[k] = c := by rw [← hce, List.getD_eq_getElem?_getD, List.getElem?_eq_getElem hkb]; rfl
   have hc6 : c < 256 := hce2 ▸ bytesN_lt (List.getElem_mem hkb)
   have HT : Hid (quoteM ((bytesN s).take (k + 1)) = quoteM ((bytesN s).take k) ++ (if oddB c = true then [92, c] else [c])) := Lib.hid (by rw [quoteM_take hkb, hce2])
   have HP : Hid (s.extract k (k + 1) = chrB [c]) := Lib.hid (by rw [one_piece s hks, hce])
   have HC : Hid ((s[k].toNat : Int) = (c : Int)) := Lib.hid (by rw [← hce2]; simp [bytesN, B]; rfl)
   clear hce hce2
   have hqz : (quoteM ((bytesN s).take k)).length ≤ 200000 := by
    have h1 := quoteM_len ((bytesN s).take k)
    have h2 : ((bytesN s).take k).length ≤ k := by simp; omega
    omega
   generalize hq : quoteM ((bytesN s).take k) = q at *
   clear hq
   go_upto_region 7 with fail
   go_loopw [3, 6] (fun vo vj w2 => ∃ j : Nat, j ≤ 10 ∧ vj = .int .i64 j ∧ vo = .string (chrB (q ++ escN c j)) ∧ Hid (Below w.heap.size w w2)) (fun _ vj _ => 10 - (intOf vj).toNat)
   case atStart => exact ⟨0, Nat.zero_le _, rfl, by simp [escN], HB⟩
   case round =>
    obtain ⟨j, hj, rfl, rfl, HB2⟩ := hrel
    by_cases hj10 : j < 10
    ·have HO := odd_at j hj10
     have HE := Lib.hid (escN_succ (c := c) hj10)
     have hc0 := HC.out
     have hz := chr_le (c := c) j hqz
     go_upto_region 9 with fail
     obtain ⟨o, ho⟩ : ∃ o, oddL.getD j 0 = o := ⟨_, rfl⟩
     rw [ho] at HO HE
     clear ho
     by_cases hoc : o = c
     ·rw [if_pos hoc] at HE
      rw [hoc] at HO
      clear hoc
      go_quiet (fail)
      go_wp2
      go_roundw
      case rel => exact ⟨j + 1, by omega, by go_num, by rw [HE.out, ← List.append_assoc, chrB_app _ [92]]; rfl, Lib.hid (bl_drewN HB2.out _)⟩
      case measure => (simp [intOf]; try omega)
     ·rw [if_neg hoc, List.append_nil] at HE
      have hne : ((o : Int) == (c : Int)) = false := by simp; omega
      clear hoc
      go_quiet (fail)
      go_wp2
      go_roundw
      case rel => exact ⟨j + 1, by omega, by go_num, by rw [HE.out], Lib.hid (bl_drewN HB2.out _)⟩
      case measure => (simp [intOf]; try omega)
    ·obtain rfl : j = 10 := by omega
     have hpi := HP.out
     have hz := chr_le (c := c) 10 hqz
     have hz2 : (chrB [c]).size = 1 := rfl
     have HN : Hid (chrB (quoteM ((bytesN s).take (k + 1))) = chrB (q ++ escN c 10) ++ chrB [c]) := Lib.hid (by rw [HT.out, escN_all hc6, ← chrB_app]; congr 1; split <;> simp)
     go_wp2
     go_roundw
     case rel => exact ⟨k + 1, by omega, by go_num, by rw [HN.out], HB2⟩
     case measure => (simp [intOf]; try omega)
  ·obtain rfl : k = s.size := by omega
   have HQ : Hid (chrB (quoteM ((bytesN s).take s.size)) = quoteB s) := Lib.hid (by rw [← bytesN_len, List.take_length, quoteB_chr])
   rw [HQ.out]
   go_wp2
   go_ret
   exact ⟨rfl, HB.out⟩
end Go.Proofs.YtgbapkechngnmaaGreat
/- MatchTurns: the law's walk: whatever the arguments, it returns true. No condition. (The drawn regions are printed by wip/genmaturn.py.) -/
namespace Go.Proofs.YtgbapkechngnmaaGreat
open Go.RowKit
/-! plain -/
def turnM (m : Mt) : Mt := ⟨m.nm, if m.op = 0 then 1 else if m.op = 1 then 0 else if m.op = 2 then 3 else 2, m.val⟩
theorem fine_turn {m : Mt} (h : fineM m = true) : fineM (turnM m) = true := by
 obtain ⟨h1, h2, h3, h4, h5⟩ := fineM_true h
 unfold fineM turnM
 simp only [Bool.and_eq_true, Bool.or_eq_true, decide_eq_true_eq]
 refine ⟨⟨⟨⟨h1, ?_⟩, ?_⟩, h4⟩, ?_⟩
 ·split <;> (try split) <;> (try split) <;> decide
 ·split <;> (try split) <;> (try split) <;> decide
 ·rcases (show m.op = 0 ∨ m.op = 1 ∨ m.op = 2 ∨ m.op = 3 by omega) with e | e | e | e
  ·left; rw [if_pos e]; decide
  ·left; rw [if_neg (by omega), if_pos e]; decide
  ·right; exact h5.resolve_left (by omega)
  ·right; exact h5.resolve_left (by omega)
theorem turn_fits (l : List Fld) {m : Mt} (h : fineM m = true) : fitM l (turnM m) = !(fitM l m) := by
 obtain ⟨h1, h2, h3, h4, h5⟩ := fineM_true h
 unfold fitM
 rw [h, fine_turn h, Bool.true_and, Bool.true_and]
 show opM (turnM m) (valueF l m.nm) = _
 unfold opM turnM
 rcases (show m.op = 0 ∨ m.op = 1 ∨ m.op = 2 ∨ m.op = 3 by omega) with e | e | e | e <;> simp [e]
theorem bytesN_B {s t : ByteArray} (h : bytesN s = bytesN t) : s = t := by
 have : ∀ {a b : List UInt8}, a.map (fun x => x.toNat) = b.map (fun x => x.toNat) → a = b := by
  intro a
  induction a with
  | nil => intro b h; cases b with
   | nil => rfl
   | cons _ _ => simp at h
  | cons x a ih => intro b h; cases b with
   | nil => simp at h
   | cons y b =>
    simp only [List.map_cons, List.cons.injEq] at h
    rw [UInt8.toNat_inj.1 h.1, ih h.2]
 exact B_inj (this h)
theorem quote_like (l : List Fld) {m : Mt} (h1 : fineM ⟨m.nm, 0, m.val⟩ = true) (h2 : fineM ⟨m.nm, 2, quoteB m.val⟩ = true) : fitM l ⟨m.nm, 2, quoteB m.val⟩ = fitM l ⟨m.nm, 0, m.val⟩ := by
 have he : errM (quoteB m.val) = 0 := (fineM_true h2).2.2.2.2.resolve_left (by show ¬ (2 : Int) < 2; decide)
 have hz := errM_size he
 unfold fitM
 rw [h1, h2, Bool.true_and, Bool.true_and]
 show fitB (quoteB m.val) (valueF l m.nm) = ((valueF l m.nm).toList == m.val.toList)
 rw [Bool.eq_iff_iff, fitB_iff, quote_fits m.val _ hz, bytes_eq_iff]
 exact ⟨bytesN_B, fun e => by rw [e]⟩
theorem bits_turn {op : Int} (h0 : 0 ≤ op) (h3 : op ≤ 3) (nm val : ByteArray) : bits BinOp.xor IntKind.i64 op 1 = (turnM ⟨nm, op, val⟩).op := by
 rcases (show op = 0 ∨ op = 1 ∨ op = 2 ∨ op = 3 by omega) with rfl | rfl | rfl | rfl <;> kernel_rfl
theorem quoteB_small {s : ByteArray} (h : s.size ≤ 210) : (quoteB s).size ≤ maxLen := by
 have h1 := quoteM_len (bytesN s)
 have h2 : (bytesN s).length = s.size := by unfold bytesN; rw [List.length_map, Array.length_toList]; rfl
 have h3 : (quoteB s).size = (quoteM (bytesN s)).length := by unfold quoteB; show (List.toArray _).size = _; simp
 unfold maxLen
 omega
theorem few_one (m : Mt) : fewM [m] = [cutM m] := rfl
structure MtBox (W : World) (b : Nat) (m : Mt) : Prop where
 c0 : W.cell? ⟨b, 0, none⟩ = some (.string m.nm)
 c1 : W.cell? ⟨b, 1, none⟩ = some (.int .i64 m.op)
 c2 : W.cell? ⟨b, 2, none⟩ = some (.string m.val)
 th : W.there b 0 3
theorem MtBox.lt {W : World} {b : Nat} {m : Mt} (h : MtBox W b m) : b < W.heap.size := cell_blt h.c0
theorem MtBox.later {W W' : World} {b : Nat} {m : Mt} (h : MtBox W b m) (hb : Below W.heap.size W W') : MtBox W' b m :=
 ⟨keep_cell h.c0 hb h.lt, keep_cell h.c1 hb h.lt, keep_cell h.c2 hb h.lt, there_later h.th hb h.lt⟩
theorem MtBox.new (W : World) (m : Mt) : MtBox (W.alloc (.cells #[.string m.nm, .int .i64 m.op, .string m.val] 29)) W.heap.size m :=
 ⟨World.cell?_alloc_at _ _ _ _ rfl, World.cell?_alloc_at _ _ _ _ rfl, World.cell?_alloc_at _ _ _ _ rfl, there3⟩
theorem MtBox.puts {W : World} {b : Nat} {m : Mt} (h : MtBox W b m) (x : Mt) : MtBox (W.setCells b 0 [.string x.nm, .int .i64 x.op, .string x.val]) b x := by
 have hr := World.rangeAt_setCells_same W b 0 [.string x.nm, .int .i64 x.op, .string x.val] h.th
 exact ⟨by simpa using hr 0 _ rfl, by simpa using hr 1 _ rfl, by simpa using hr 2 _ rfl, World.there_setCells h.th b 0 _⟩
theorem MtBox.setOp {W : World} {b : Nat} {m : Mt} (h : MtBox W b m) (o : Int) : MtBox (W.setCell ⟨b, 1, none⟩ (.int .i64 o)) b ⟨m.nm, o, m.val⟩ :=
 ⟨by rw [World.cell?_setCell_other _ _ _ _ (by simp)]; exact h.c0, World.cell?_setCell_same _ _ _ h.c1, by rw [World.cell?_setCell_other _ _ _ _ (by simp)]; exact h.c2, World.there_setCells h.th b 1 [.int .i64 o]⟩
theorem MtBox.setVal {W : World} {b : Nat} {m : Mt} (h : MtBox W b m) (v : ByteArray) : MtBox (W.setCell ⟨b, 2, none⟩ (.string v)) b ⟨m.nm, m.op, v⟩ :=
 ⟨by rw [World.cell?_setCell_other _ _ _ _ (by simp)]; exact h.c0, by rw [World.cell?_setCell_other _ _ _ _ (by simp)]; exact h.c1, World.cell?_setCell_same _ _ _ h.c2, World.there_setCells h.th b 2 [.string v]⟩
theorem MtBox.far {W : World} {b b' j : Nat} {m : Mt} {v : Value} (h : MtBox W b m) (hn : b' ≠ b) : MtBox (W.setCell ⟨b', j, none⟩ v) b m :=
 ⟨by rw [cell_farC hn]; exact h.c0, by rw [cell_farC hn]; exact h.c1, by rw [cell_farC hn]; exact h.c2, World.there_setCells h.th b' j [v]⟩
structure TS (w : World) (w2 : World) (p : Nat) (W : World) : Prop where
 bl : Below w.heap.size w W
 kp : ∀ k, p ≤ k → k < w2.heap.size → W.heap[k]? = w2.heap[k]?
 sz : w2.heap.size ≤ W.heap.size
theorem TS.later {w w2 W W' : World} {p : Nat} (h : TS w w2 p W) (hb : Below W.heap.size W W') : TS w w2 p W' :=
 ⟨h.bl.trans (hb.mono h.bl.size), fun k h1 h2 => (hb.block k (Nat.lt_of_lt_of_le h2 h.sz)).trans (h.kp k h1 h2), Nat.le_trans h.sz hb.size⟩
theorem TS.set {w w2 W : World} {p b j : Nat} {v : Value} (h : TS w w2 p W) (hb : w.heap.size ≤ b) (hn : b < p ∨ w2.heap.size ≤ b) : TS w w2 p (W.setCell ⟨b, j, none⟩ v) :=
 ⟨h.bl.trans ((Below.refl _ _).setCell (p := ⟨b, j, none⟩) hb v), fun k h1 h2 => (block_setCell_o (by omega)).trans (h.kp k h1 h2), by rw [World.size_setCell]; exact h.sz⟩
theorem TS.flds {w w2 : World} {p : Nat} {gv : Value} {L : List Fld} (hf : FldsAt w2 gv L) (hq : ∀ q, gv.ownBlock = some q → p ≤ q) : ∀ W, TS w w2 p W → FldsAt W gv L := by
 intro W h
 obtain ⟨h1, h2⟩ := hf
 refine ⟨h1, ?_⟩
 rcases h2 with h2 | ⟨a, c, rfl, hc, hr⟩
 ·exact .inl h2
 ·refine .inr ⟨a, c, rfl, hc, fun hn => ?_⟩
  obtain ⟨b, o, rfl, hlt, hcell⟩ := hr hn
  have e := h.kp b (hq b rfl) hlt
  exact ⟨b, o, rfl, Nat.lt_of_lt_of_le hlt h.sz, fun j x hx => (World.cell?_of_block (w := w2) (a := ⟨b, o + j, none⟩) e).trans (hcell j x hx)⟩
namespace lawTurns
set_option maxHeartbeats 3200000 in
set_option maxRecDepth 100000 in
theorem walk0 (v0 : Value) (l : List Fld) (m0 : Mt) (w : World) (hv : ArgFlds w v0 l) (hm : MtFit m0) :
  Calls Tryz.prog 5 #[v0, .agg #[.string m0.nm, .int .i64 m0.op, .string m0.val]] w fun e w' => e = .returned (.bool true) ∧ Below w.heap.size w w' := by
 have hba := alloc_below w (.cells #[.string m0.nm, .int .i64 m0.op, .string m0.val] 29)
 have kl := lives6_any (w.alloc (.cells #[.string m0.nm, .int .i64 m0.op, .string m0.val] 29))
 have KG := Lib.hid (fun W (h : Below w.heap.size w W) => rgood6_any l W v0 (hv.1.later h) hv.2.2 hv.2.1)
 have HX := Lib.hid (MtBox.new w m0)
 have HBA := Lib.hid hba
 have HCF := Lib.hid (show MtFit (cutM m0) from ⟨hm.1, by have := cutM_size m0; unfold maxLen; omega⟩)
 have HCZ := Lib.hid (cutM_size m0)
 have KF := Lib.hid (fun (W : World) => few6_any [m0] (.slice (some ⟨W.heap.size, 0, none⟩) 1 1) (W.alloc (.cells #[.string m0.nm, .int .i64 m0.op, .string m0.val] 29)) (show MtsAt (W.alloc (.cells #[.string m0.nm, .int .i64 m0.op, .string m0.val] 29)) (.slice (some ⟨W.heap.size, 0, none⟩) 1 1) [m0] from row_mt W m0) (by unfold maxLen; show 1 ≤ _; omega))
 rw [few_one] at KF
 clear hv hba
 obtain ⟨nm0, op0, val0⟩ := m0
 dsimp only at *
 go_enter Tryz.func5, Tryz.ntmps5
 go_wp2_with fail
 refine kl.mono ?_
 rintro e w1 ⟨rfl, hb1⟩
 have HX1 := Lib.hid (HX.out.later hb1)
 have HB1 := Lib.hid (HBA.out.trans (hb1.mono HBA.out.size))
 have hpl : w.heap.size < w1.heap.size := HX1.out.lt
 have kg := KG.out w1 HB1.out
 clear kl hb1 HX HBA KG
 go_wp2_with fail
 refine kg.mono ?_
 rintro e w2 ⟨gv, rfl, hgv, hgf, hgr, hgq, hb2⟩
 have HTF := Lib.hid (TS.flds (w := w) hgv hgq)
 have HB2 := Lib.hid (HB1.out.trans (hb2.mono HB1.out.size))
 have HX2 := Lib.hid (HX1.out.later hb2)
 have HGF := Lib.hid hgf
 have HGL := Lib.hid ((right_iff _).1 hgr).1
 have HT2 := Lib.hid (show TS w w2 w1.heap.size w2 from ⟨HB2.out, fun _ _ _ => rfl, Nat.le_refl _⟩)
 have h12 : w1.heap.size ≤ w2.heap.size := hb2.size
 clear kg hb2 hgv hgf hgr hgq HX1
 generalize goodF l = L at *
 have c0 := HX2.out.c0
 have c1 := HX2.out.c1
 have c2 := HX2.out.c2
 have kf := KF.out w2
 have hab := alloc_below w2 (.cells #[.string nm0, .int .i64 op0, .string val0] 29)
 go_wp2_with fail
 refine kf.mono ?_
 rintro e w3 ⟨fv, rfl, hfo, hb3⟩
 have hb3' := hab.trans (hb3.mono hab.size)
 have HB3 := Lib.hid (HB2.out.trans (hb3'.mono HB2.out.size))
 have HX3 := Lib.hid (HX2.out.later hb3')
 have HT3 := Lib.hid (HT2.out.later hb3')
 have HFO := Lib.hid (RdAt.own hfo)
 obtain ⟨fb, fo, fc, hfv, hfc, hfl, hfcell⟩ := RdAt.some HFO.out (by simp)
 have hfv' : fv = .slice (some ⟨fb, fo, none⟩) 1 fc := hfv
 subst hfv'
 generalize hcm : cutM ⟨nm0, op0, val0⟩ = x at *
 have f0 : w3.cell? ⟨fb, fo, none⟩ = some (.string x.nm) := hfcell 0 _ rfl
 have f1 : w3.cell? ⟨fb, fo + 1, none⟩ = some (.int .i64 x.op) := hfcell 1 _ rfl
 have f2 : w3.cell? ⟨fb, fo + 2, none⟩ = some (.string x.val) := hfcell 2 _ rfl
 have t0 := HX3.out.c0
 have t1 := HX3.out.c1
 have t2 := HX3.out.c2
 have z0 := there_free HX3.out.th 0 (by omega)
 have z1 := there_free HX3.out.th 1 (by omega)
 have z2 := there_free HX3.out.th 2 (by omega)
 clear kf hab hb3 hb3' hfo hfcell hfv hfc KF c0 c1 c2 HX2 HT2 hcm hm
 obtain ⟨nm, op, val⟩ := x
 dsimp only at *
 go_upto_region 5 with fail
 refine wp_forgetB (fun W => MtBox W w.heap.size ⟨nm, op, val⟩ ∧ TS w w2 w1.heap.size W) ⟨HX3.out.puts ⟨nm, op, val⟩, ((HT3.out.set (Nat.le_refl _) (.inl hpl)).set (Nat.le_refl _) (.inl hpl)).set (Nat.le_refl _) (.inl hpl)⟩ (fun w4 hw4 => ?_)
 obtain ⟨hX4, hT4⟩ := hw4
 have c0 := hX4.c0
 have c1 := hX4.c1
 have c2 := hX4.c2
 have hba4 := alloc_below w4 (.cells #[.string nm, .int .i64 op, .string val] 29)
 have HX4 := Lib.hid (hX4.later hba4)
 have HT4 := Lib.hid (hT4.later hba4)
 have HO4 := Lib.hid (MtBox.new w4 ⟨nm, op, val⟩)
 have hsz4 := World.size_alloc w4 (.cells #[.string nm, .int .i64 op, .string val] 29)
 have hw24 := hT4.sz
 clear f0 f1 f2 t0 t1 t2 z0 z1 z2 HX3 HT3 HFO hX4 hT4
 go_upto_region 6 with fail
 refine wp_forgetB (fun W => W = w4.alloc (.cells #[.string nm, .int .i64 op, .string val] 29)) rfl (fun w5 hw5 => ?_)
 rw [← hw5] at HX4 HT4 HO4 hsz4
 clear hba4 hw5 c0 c1 c2
 have c1 := HX4.out.c1
 have d1 := HO4.out.c1
 have y1 := there_free HO4.out.th 1 (by omega)
 obtain ⟨o, hob⟩ : ∃ o, w4.heap.size = o := ⟨_, rfl⟩
 rw [hob] at HO4 d1 y1 hsz4 hw24
 rw [hob]
 have hpo : w.heap.size ≠ o := by have := HT4.out.sz; omega
 go_upto_region 7 with fail
 obtain ⟨xo, hxo⟩ : ∃ x, bits BinOp.xor IntKind.i64 op 1 = x := ⟨_, rfl⟩
 have HXO := Lib.hid hxo
 rw [hxo]
 refine wp_forgetB (fun W => MtBox W w.heap.size ⟨nm, op, val⟩ ∧ MtBox W o ⟨nm, xo, val⟩ ∧ TS w w2 w1.heap.size W) ⟨HX4.out.far (fun e => hpo e.symm), HO4.out.setOp xo, HT4.out.set (by have := HT4.out.bl.size; have := hpl; omega) (.inr (by omega))⟩ (fun w6 hw6 => ?_)
 obtain ⟨hX6, hO6, hT6⟩ := hw6
 have HX6 := Lib.hid hX6
 have HO6 := Lib.hid hO6
 have HT6 := Lib.hid hT6
 have SK : Hid (∀ W, Below w6.heap.size w6 W → (W.cell? ⟨w.heap.size, 0, none⟩ = some (.string nm) ∧ W.cell? ⟨w.heap.size, 1, none⟩ = some (.int .i64 op) ∧ W.cell? ⟨w.heap.size, 2, none⟩ = some (.string val)) ∧ W.cell? ⟨o, 0, none⟩ = some (.string nm) ∧ W.cell? ⟨o, 1, none⟩ = some (.int .i64 xo) ∧ W.cell? ⟨o, 2, none⟩ = some (.string val)) := Lib.hid (fun W h => ⟨⟨(HX6.out.later h).c0, (HX6.out.later h).c1, (HX6.out.later h).c2⟩, (HO6.out.later h).c0, (HO6.out.later h).c1, (HO6.out.later h).c2⟩)
 have hLl : L.length ≤ 1000000000000 := by have := HGL.out; omega
 have KFI := Lib.hid (fun W => mfine_any ⟨nm, op, val⟩ W HCF.out)
 have KM := Lib.hid (fun W (h : Below w6.heap.size w6 W) => fits_any L ⟨nm, op, val⟩ W gv (HTF.out W (HT6.out.later h)) hLl HGF.out HCF.out)
 have KO := Lib.hid (fun W (h : Below w6.heap.size w6 W) => fits_any L ⟨nm, xo, val⟩ W gv (HTF.out W (HT6.out.later h)) hLl HGF.out ⟨HCF.out.1, HCF.out.2⟩)
 have hgvs : ∃ ga gc, gv = .slice ga L.length gc := by
  obtain ⟨ga, gc, h, _, _⟩ := RdAt.shape (HTF.out w6 hT6)
  exact ⟨ga, gc, h⟩
 obtain ⟨ga, gc, rfl⟩ := hgvs
 obtain ⟨F, hF⟩ : ∃ F, fineM ⟨nm, op, val⟩ = F := ⟨_, rfl⟩
 have HF := Lib.hid hF
 rw [hF] at KFI
 obtain ⟨FM, hFM⟩ : ∃ F, fitM L ⟨nm, op, val⟩ = F := ⟨_, rfl⟩
 have HFM := Lib.hid hFM
 rw [hFM] at KM
 obtain ⟨FO, hFO⟩ : ∃ F, fitM L ⟨nm, xo, val⟩ = F := ⟨_, rfl⟩
 have HFO' := Lib.hid hFO
 rw [hFO] at KO
 clear hX6 hO6 hT6 hF hFM hFO hxo c1 d1 y1 HX4 HO4 HT4
 go_cut [42] (fun s42 wx => s42 = .bool false ∧ Below w6.heap.size w6 wx)
 case first =>
  cases F with
  | true =>
   obtain ⟨_, ho0, ho3, _, _⟩ := fineM_true HF.out
   have hturn : FO = !FM := by
    have e := bits_turn ho0 ho3 nm val
    rw [HXO.out] at e
    rw [← HFM.out, ← HFO'.out, ← turn_fits L HF.out]
    show fitM L ⟨nm, xo, val⟩ = fitM L ⟨nm, (turnM ⟨nm, op, val⟩).op, val⟩
    rw [e]
   have hfm : (FM == FO) = false := by rw [hturn]; cases FM <;> rfl
   clear hturn ho0 ho3
   refine wp_region_held_drew (S := (fun W => (W.cell? ⟨w.heap.size, 0, none⟩ = some (.string nm) ∧ W.cell? ⟨w.heap.size, 1, none⟩ = some (.int .i64 op) ∧ W.cell? ⟨w.heap.size, 2, none⟩ = some (.string val)) ∧ W.cell? ⟨o, 0, none⟩ = some (.string nm) ∧ W.cell? ⟨o, 1, none⟩ = some (.int .i64 xo) ∧ W.cell? ⟨o, 2, none⟩ = some (.string val))) (by kernel_rfl) (SK.out _ ((Below.refl _ _).drew)) (fun hHeld => ?_)
   have hbd : Below w6.heap.size w6 w6.drew := (Below.refl _ _).drew
   have HBD := Lib.hid hbd
   clear hbd
   generalize w6.drew = wd at *
   refine hT (i := 0) (v := ?_) rfl rfl hHeld ?_ ?_
   rotate_left
   ·rintro wh ⟨⟨z0, z1, z2⟩, z3, z4, z5⟩
    go_simp
    (try with_reducible rfl)
   simp only [Act.put, List.setIfInBounds_toArray, List.set_cons_zero, List.set_cons_succ]
   refine held_call (i := 1) rfl (by kernel_rfl) (by rfl) (fun K hK => ?_)
   go_simp; refine (KFI.out _).mono ?_; rintro e x1 ⟨rfl, hb1⟩; have HC1 := Lib.hid (HBD.out.trans (hb1.mono HBD.out.size)); clear hb1
   refine hK.out _ _ (SK.out _ HC1.out) (fun hHeld => ?_)
   clear hK K
   (try simp only [Act.put, List.setIfInBounds_toArray, List.set_cons_zero, List.set_cons_succ])
   refine plIn [2, 3, 4, 6, 7] ?_
   iterate 5
    refine hP (v := ?_) rfl rfl hHeld ?_ ?_
    rotate_left
    ·rintro wh ⟨⟨z0, z1, z2⟩, z3, z4, z5⟩
     go_simp
     (try with_reducible rfl)
    simp only [Act.put, List.setIfInBounds_toArray, List.set_cons_zero, List.set_cons_succ]
   refine plOut ?_
   refine held_call (i := 5) rfl (by kernel_rfl) (by rfl) (fun K hK => ?_)
   go_simp; refine (KM.out _ HC1.out).mono ?_; rintro e x2 ⟨rfl, hb2⟩; have HC2 := Lib.hid (HC1.out.trans (hb2.mono HC1.out.size)); clear hb2
   refine hK.out _ _ (SK.out _ HC2.out) (fun hHeld => ?_)
   clear hK K
   (try simp only [Act.put, List.setIfInBounds_toArray, List.set_cons_zero, List.set_cons_succ])
   refine held_call (i := 8) rfl (by kernel_rfl) (by rfl) (fun K hK => ?_)
   go_simp; refine (KO.out _ HC2.out).mono ?_; rintro e x3 ⟨rfl, hb3⟩; have HC3 := Lib.hid (HC2.out.trans (hb3.mono HC2.out.size)); clear hb3
   refine hK.out _ _ (SK.out _ HC3.out) (fun hHeld => ?_)
   clear hK K
   (try simp only [Act.put, List.setIfInBounds_toArray, List.set_cons_zero, List.set_cons_succ])
   refine plIn [9, 10, 11, 12] ?_
   iterate 4
    refine hP (v := ?_) rfl rfl hHeld ?_ ?_
    rotate_left
    ·rintro wh ⟨⟨z0, z1, z2⟩, z3, z4, z5⟩
     go_simp
     (try with_reducible rfl)
    simp only [Act.put, List.setIfInBounds_toArray, List.set_cons_zero, List.set_cons_succ]
   refine plOut ?_
   refine held_call (i := 13) rfl (by kernel_rfl) (by rfl) (fun K hK => ?_)
   go_simp; refine (KFI.out _).mono ?_; rintro e x4 ⟨rfl, hb4⟩; have HC4 := Lib.hid (HC3.out.trans (hb4.mono HC3.out.size)); clear hb4
   refine hK.out _ _ (SK.out _ HC4.out) (fun hHeld => ?_)
   clear hK K
   (try simp only [Act.put, List.setIfInBounds_toArray, List.set_cons_zero, List.set_cons_succ])
   refine plIn [14, 15] ?_
   iterate 2
    refine hP (v := ?_) rfl rfl hHeld ?_ ?_
    rotate_left
    ·rintro wh ⟨⟨z0, z1, z2⟩, z3, z4, z5⟩
     go_simp
     (try with_reducible rfl)
    simp only [Act.put, List.setIfInBounds_toArray, List.set_cons_zero, List.set_cons_succ]
   refine plOut ?_
   refine plIn [16, 17, 18] ?_
   iterate 3
    refine hK rfl rfl hHeld ?_
    simp only [Act.put, List.setIfInBounds_toArray, List.set_cons_zero, List.set_cons_succ]
   refine plOut ?_
   refine plIn [19, 20] ?_
   iterate 2
    refine hP (v := ?_) rfl rfl hHeld ?_ ?_
    rotate_left
    ·rintro wh ⟨⟨z0, z1, z2⟩, z3, z4, z5⟩
     go_simp
     (try with_reducible rfl)
    simp only [Act.put, List.setIfInBounds_toArray, List.set_cons_zero, List.set_cons_succ]
   refine plOut ?_
   refine wpAnyH_done (by kernel_rfl) ?_ _
   go_wp2
   go_meet
   case rel => exact ⟨rfl, HC4.out⟩
  | false =>
   have hfm : FM = false := by
    rw [← HFM.out]
    unfold fitM
    rw [HF.out]
    rfl
   subst hfm
   refine wp_region_held_drew (S := (fun W => (W.cell? ⟨w.heap.size, 0, none⟩ = some (.string nm) ∧ W.cell? ⟨w.heap.size, 1, none⟩ = some (.int .i64 op) ∧ W.cell? ⟨w.heap.size, 2, none⟩ = some (.string val)) ∧ W.cell? ⟨o, 0, none⟩ = some (.string nm) ∧ W.cell? ⟨o, 1, none⟩ = some (.int .i64 xo) ∧ W.cell? ⟨o, 2, none⟩ = some (.string val))) (by kernel_rfl) (SK.out _ ((Below.refl _ _).drew)) (fun hHeld => ?_)
   have hbd : Below w6.heap.size w6 w6.drew := (Below.refl _ _).drew
   have HBD := Lib.hid hbd
   clear hbd
   generalize w6.drew = wd at *
   refine hT (i := 0) (v := ?_) rfl rfl hHeld ?_ ?_
   rotate_left
   ·rintro wh ⟨⟨z0, z1, z2⟩, z3, z4, z5⟩
    go_simp
    (try with_reducible rfl)
   simp only [Act.put, List.setIfInBounds_toArray, List.set_cons_zero, List.set_cons_succ]
   refine held_call (i := 1) rfl (by kernel_rfl) (by rfl) (fun K hK => ?_)
   go_simp; refine (KFI.out _).mono ?_; rintro e x1 ⟨rfl, hb1⟩; have HC1 := Lib.hid (HBD.out.trans (hb1.mono HBD.out.size)); clear hb1
   refine hK.out _ _ (SK.out _ HC1.out) (fun hHeld => ?_)
   clear hK K
   (try simp only [Act.put, List.setIfInBounds_toArray, List.set_cons_zero, List.set_cons_succ])
   refine hT (i := 2) (v := ?_) rfl rfl hHeld ?_ ?_
   rotate_left
   ·rintro wh ⟨⟨z0, z1, z2⟩, z3, z4, z5⟩
    go_simp
    (try with_reducible rfl)
   simp only [Act.put, List.setIfInBounds_toArray, List.set_cons_zero, List.set_cons_succ]
   refine plIn [3, 4, 5, 6, 7, 8, 9] ?_
   iterate 7
    refine hK rfl rfl hHeld ?_
    simp only [Act.put, List.setIfInBounds_toArray, List.set_cons_zero, List.set_cons_succ]
   refine plOut ?_
   refine plIn [10, 11, 12] ?_
   iterate 3
    refine hP (v := ?_) rfl rfl hHeld ?_ ?_
    rotate_left
    ·rintro wh ⟨⟨z0, z1, z2⟩, z3, z4, z5⟩
     go_simp
     (try with_reducible rfl)
    simp only [Act.put, List.setIfInBounds_toArray, List.set_cons_zero, List.set_cons_succ]
   refine plOut ?_
   refine held_call (i := 13) rfl (by kernel_rfl) (by rfl) (fun K hK => ?_)
   go_simp; refine (KFI.out _).mono ?_; rintro e x2 ⟨rfl, hb2⟩; have HC2 := Lib.hid (HC1.out.trans (hb2.mono HC1.out.size)); clear hb2
   refine hK.out _ _ (SK.out _ HC2.out) (fun hHeld => ?_)
   clear hK K
   (try simp only [Act.put, List.setIfInBounds_toArray, List.set_cons_zero, List.set_cons_succ])
   refine plIn [14, 15, 16, 17] ?_
   iterate 4
    refine hP (v := ?_) rfl rfl hHeld ?_ ?_
    rotate_left
    ·rintro wh ⟨⟨z0, z1, z2⟩, z3, z4, z5⟩
     go_simp
     (try with_reducible rfl)
    simp only [Act.put, List.setIfInBounds_toArray, List.set_cons_zero, List.set_cons_succ]
   refine plOut ?_
   refine held_call (i := 18) rfl (by kernel_rfl) (by rfl) (fun K hK => ?_)
   go_simp; refine (KM.out _ HC2.out).mono ?_; rintro e x3 ⟨rfl, hb3⟩; have HC3 := Lib.hid (HC2.out.trans (hb3.mono HC2.out.size)); clear hb3
   refine hK.out _ _ (SK.out _ HC3.out) (fun hHeld => ?_)
   clear hK K
   (try simp only [Act.put, List.setIfInBounds_toArray, List.set_cons_zero, List.set_cons_succ])
   refine plIn [19, 20] ?_
   iterate 2
    refine hP (v := ?_) rfl rfl hHeld ?_ ?_
    rotate_left
    ·rintro wh ⟨⟨z0, z1, z2⟩, z3, z4, z5⟩
     go_simp
     (try with_reducible rfl)
    simp only [Act.put, List.setIfInBounds_toArray, List.set_cons_zero, List.set_cons_succ]
   refine plOut ?_
   refine wpAnyH_done (by kernel_rfl) ?_ _
   go_wp2
   go_meet
   case rel => exact ⟨rfl, HC3.out⟩
 case rest =>
  obtain ⟨rfl, hcw⟩ := hcut
  have HX7 := Lib.hid (HX6.out.later hcw)
  have HT7 := Lib.hid (HT6.out.later hcw)
  clear hcw SK KO KM KFI HO6 HX6 HT6 HF HFM HFO' HXO
  generalize wc = w7 at *
  go_upto_region 9 with fail
  have c0 := HX7.out.c0
  have c1 := HX7.out.c1
  have c2 := HX7.out.c2
  have hsz7 := HT7.out.sz
  have hpx := HX7.out.lt
  go_cut [6, 7] (fun s6 s7 wx => ∃ gi gl, s6 = .pointer (some ⟨gi, 0, none⟩) ∧ s7 = .pointer (some ⟨gl, 0, none⟩) ∧ gi ≠ gl ∧ w2.heap.size ≤ gi ∧ w2.heap.size ≤ gl ∧ MtBox wx gi ⟨nm, op, val⟩ ∧ MtBox wx gl ⟨nm, op, val⟩ ∧ Below w7.heap.size w7 wx)
  case first =>
   go_region
   all_goals (go_wp2_with fail)
   all_goals
    go_meet
    have hb1 := alloc_below w7 (.cells #[.string nm, .int .i64 op, .string val] 29)
    have hb2 := alloc_below (w7.alloc (.cells #[.string nm, .int .i64 op, .string val] 29)) (.cells #[.string nm, .int .i64 op, .string val] 29)
    have q1 := (MtBox.new w7 ⟨nm, op, val⟩).later hb2
    have q2 := MtBox.new (w7.alloc (.cells #[.string nm, .int .i64 op, .string val] 29)) ⟨nm, op, val⟩
    have qz := World.size_alloc w7 (.cells #[.string nm, .int .i64 op, .string val] 29)
    rw [qz] at q2
    have hd : ∀ W : World, Below W.heap.size W W.drew := fun W => (Below.refl _ _).drew
    have hbl := (hb1.trans (hb2.mono hb1.size)).trans ((hd _).mono (Nat.le_trans hb1.size hb2.size))
    first
     | exact ⟨w7.heap.size, w7.heap.size + 1, rfl, rfl, by omega, by omega, by omega, q1.later (hd _), q2.later (hd _), hbl⟩
     | exact ⟨w7.heap.size + 1, w7.heap.size, rfl, rfl, by omega, by omega, by omega, q2.later (hd _), q1.later (hd _), hbl⟩
  case rest =>
   obtain ⟨gi, gl, rfl, rfl, hgl, hgi2, hgl2, hI, hLk, hb8⟩ := hcut
   have HX8 := Lib.hid (HX7.out.later hb8)
   have HT8 := Lib.hid (HT7.out.later hb8)
   have HI := Lib.hid hI
   have HLK := Lib.hid hLk
   have e1 := hI.c1
   have e2 := hLk.c1
   have y1 := there_free hI.th 1 (by omega)
   have y2 := there_free hLk.th 1 (by omega)
   clear hI hLk hb8 c0 c1 c2 HX7 HT7
   go_upto_region 12 with fail
   refine wp_forgetB (fun W => MtBox W gi ⟨nm, 0, val⟩ ∧ MtBox W gl ⟨nm, 2, val⟩ ∧ MtBox W w.heap.size ⟨nm, op, val⟩ ∧ TS w w2 w1.heap.size W) ⟨(HI.out.setOp 0).far (fun e => hgl e.symm), (HLK.out.far hgl).setOp 2, (HX8.out.far (by omega)).far (by omega), (HT8.out.set (by omega) (.inr hgi2)).set (by omega) (.inr hgl2)⟩ (fun w9 hw9 => ?_)
   obtain ⟨hI9, hL9, hX9, hT9⟩ := hw9
   have c2 := hX9.c2
   have kq := refquote_is val w9 (by have := HCZ.out; omega)
   have HI9 := Lib.hid hI9
   have HL9 := Lib.hid hL9
   have HT9 := Lib.hid hT9
   clear hI9 hL9 hX9 hT9 e1 e2 y1 y2 HX8 HT8 HI HLK
   go_wp2_with fail
   refine kq.mono ?_
   rintro e w10 ⟨rfl, hb10⟩
   have HI10 := Lib.hid (HI9.out.later hb10)
   have HL10 := Lib.hid (HL9.out.later hb10)
   have HT10 := Lib.hid (HT9.out.later hb10)
   have e2 := HL10.out.c2
   have y2 := there_free HL10.out.th 2 (by omega)
   clear kq hb10 HI9 HL9 HT9 c2
   go_upto_region 13 with fail
   refine wp_forgetB (fun W => MtBox W gi ⟨nm, 0, val⟩ ∧ MtBox W gl ⟨nm, 2, quoteB val⟩ ∧ TS w w2 w1.heap.size W) ⟨HI10.out.far (fun e => hgl e.symm), HL10.out.setVal (quoteB val), HT10.out.set (by omega) (.inr hgl2)⟩ (fun w11 hw11 => ?_)
   obtain ⟨hI11, hL11, hT11⟩ := hw11
   have HI11 := Lib.hid hI11
   have HL11 := Lib.hid hL11
   have HT11 := Lib.hid hT11
   have hqz := quoteB_small HCZ.out
   have SK : Hid (∀ W, Below w11.heap.size w11 W → (W.cell? ⟨gi, 0, none⟩ = some (.string nm) ∧ W.cell? ⟨gi, 1, none⟩ = some (.int .i64 0) ∧ W.cell? ⟨gi, 2, none⟩ = some (.string val)) ∧ W.cell? ⟨gl, 0, none⟩ = some (.string nm) ∧ W.cell? ⟨gl, 1, none⟩ = some (.int .i64 2) ∧ W.cell? ⟨gl, 2, none⟩ = some (.string (quoteB val))) := Lib.hid (fun W h => ⟨⟨(HI11.out.later h).c0, (HI11.out.later h).c1, (HI11.out.later h).c2⟩, (HL11.out.later h).c0, (HL11.out.later h).c1, (HL11.out.later h).c2⟩)
   have KI := Lib.hid (fun W => mfine_any ⟨nm, 0, val⟩ W ⟨HCF.out.1, HCF.out.2⟩)
   have KL := Lib.hid (fun W => mfine_any ⟨nm, 2, quoteB val⟩ W ⟨HCF.out.1, hqz⟩)
   have KMI := Lib.hid (fun W (h : Below w11.heap.size w11 W) => fits_any L ⟨nm, 0, val⟩ W _ (HTF.out W (HT11.out.later h)) hLl HGF.out ⟨HCF.out.1, HCF.out.2⟩)
   have KML := Lib.hid (fun W (h : Below w11.heap.size w11 W) => fits_any L ⟨nm, 2, quoteB val⟩ W _ (HTF.out W (HT11.out.later h)) hLl HGF.out ⟨HCF.out.1, hqz⟩)
   have HQ := Lib.hid (quote_like L (m := ⟨nm, op, val⟩))
   clear hI11 hL11 hT11 e2 y2 HI10 HL10 HT10
   dsimp only at HQ
   generalize hqb : quoteB val = qv at *
   obtain ⟨F1, hF1⟩ : ∃ F, fineM ⟨nm, 0, val⟩ = F := ⟨_, rfl⟩
   obtain ⟨F2, hF2⟩ : ∃ F, fineM ⟨nm, 2, qv⟩ = F := ⟨_, rfl⟩
   obtain ⟨G1, hG1⟩ : ∃ F, fitM L ⟨nm, 0, val⟩ = F := ⟨_, rfl⟩
   obtain ⟨G2, hG2⟩ : ∃ F, fitM L ⟨nm, 2, qv⟩ = F := ⟨_, rfl⟩
   rw [hF1] at KI HQ
   rw [hF2] at KL HQ
   rw [hG1] at KMI HQ
   rw [hG2] at KML HQ
   clear hF1 hF2 hG1 hG2 hqb
   cases F1 with
   | false =>
    refine wp_region_held_drew (S := (fun W => (W.cell? ⟨gi, 0, none⟩ = some (.string nm) ∧ W.cell? ⟨gi, 1, none⟩ = some (.int .i64 0) ∧ W.cell? ⟨gi, 2, none⟩ = some (.string val)) ∧ W.cell? ⟨gl, 0, none⟩ = some (.string nm) ∧ W.cell? ⟨gl, 1, none⟩ = some (.int .i64 2) ∧ W.cell? ⟨gl, 2, none⟩ = some (.string qv))) (by kernel_rfl) (SK.out _ ((Below.refl _ _).drew)) (fun hHeld => ?_)
    have hbd : Below w11.heap.size w11 w11.drew := (Below.refl _ _).drew
    have HBD := Lib.hid hbd
    clear hbd
    generalize w11.drew = wd at *
    refine hT (i := 0) (v := ?_) rfl rfl hHeld ?_ ?_
    rotate_left
    ·rintro wh ⟨⟨z0, z1, z2⟩, z3, z4, z5⟩
     go_simp
     (try with_reducible rfl)
    simp only [Act.put, List.setIfInBounds_toArray, List.set_cons_zero, List.set_cons_succ]
    refine held_call (i := 1) rfl (by kernel_rfl) (by rfl) (fun K hK => ?_)
    go_simp; refine (KI.out _).mono ?_; rintro e x1 ⟨rfl, hb1⟩; have HC1 := Lib.hid (HBD.out.trans (hb1.mono HBD.out.size)); clear hb1
    refine hK.out _ _ (SK.out _ HC1.out) (fun hHeld => ?_)
    clear hK K
    (try simp only [Act.put, List.setIfInBounds_toArray, List.set_cons_zero, List.set_cons_succ])
    refine plIn [2, 3] ?_
    iterate 2
     refine hP (v := ?_) rfl rfl hHeld ?_ ?_
     rotate_left
     ·rintro wh ⟨⟨z0, z1, z2⟩, z3, z4, z5⟩
      go_simp
      (try with_reducible rfl)
     simp only [Act.put, List.setIfInBounds_toArray, List.set_cons_zero, List.set_cons_succ]
    refine plOut ?_
    refine plIn [4, 5, 6] ?_
    iterate 3
     refine hK rfl rfl hHeld ?_
     simp only [Act.put, List.setIfInBounds_toArray, List.set_cons_zero, List.set_cons_succ]
    refine plOut ?_
    refine plIn [7, 8] ?_
    iterate 2
     refine hP (v := ?_) rfl rfl hHeld ?_ ?_
     rotate_left
     ·rintro wh ⟨⟨z0, z1, z2⟩, z3, z4, z5⟩
      go_simp
      (try with_reducible rfl)
     simp only [Act.put, List.setIfInBounds_toArray, List.set_cons_zero, List.set_cons_succ]
    refine plOut ?_
    refine plIn [9, 10, 11, 12, 13, 14, 15] ?_
    iterate 7
     refine hK rfl rfl hHeld ?_
     simp only [Act.put, List.setIfInBounds_toArray, List.set_cons_zero, List.set_cons_succ]
    refine plOut ?_
    refine plIn [16, 17] ?_
    iterate 2
     refine hP (v := ?_) rfl rfl hHeld ?_ ?_
     rotate_left
     ·rintro wh ⟨⟨z0, z1, z2⟩, z3, z4, z5⟩
      go_simp
      (try with_reducible rfl)
     simp only [Act.put, List.setIfInBounds_toArray, List.set_cons_zero, List.set_cons_succ]
    refine plOut ?_
    refine wpAnyH_done (by kernel_rfl) ?_ _
    have HE := Lib.hid (HT11.out.bl.trans (HC1.out.mono HT11.out.bl.size))
    go_wp2
    go_ret
    exact ⟨rfl, HE.out⟩
   | true =>
    cases F2 with
    | false =>
     refine wp_region_held_drew (S := (fun W => (W.cell? ⟨gi, 0, none⟩ = some (.string nm) ∧ W.cell? ⟨gi, 1, none⟩ = some (.int .i64 0) ∧ W.cell? ⟨gi, 2, none⟩ = some (.string val)) ∧ W.cell? ⟨gl, 0, none⟩ = some (.string nm) ∧ W.cell? ⟨gl, 1, none⟩ = some (.int .i64 2) ∧ W.cell? ⟨gl, 2, none⟩ = some (.string qv))) (by kernel_rfl) (SK.out _ ((Below.refl _ _).drew)) (fun hHeld => ?_)
     have hbd : Below w11.heap.size w11 w11.drew := (Below.refl _ _).drew
     have HBD := Lib.hid hbd
     clear hbd
     generalize w11.drew = wd at *
     refine hT (i := 0) (v := ?_) rfl rfl hHeld ?_ ?_
     rotate_left
     ·rintro wh ⟨⟨z0, z1, z2⟩, z3, z4, z5⟩
      go_simp
      (try with_reducible rfl)
     simp only [Act.put, List.setIfInBounds_toArray, List.set_cons_zero, List.set_cons_succ]
     refine held_call (i := 1) rfl (by kernel_rfl) (by rfl) (fun K hK => ?_)
     go_simp; refine (KI.out _).mono ?_; rintro e x1 ⟨rfl, hb1⟩; have HC1 := Lib.hid (HBD.out.trans (hb1.mono HBD.out.size)); clear hb1
     refine hK.out _ _ (SK.out _ HC1.out) (fun hHeld => ?_)
     clear hK K
     (try simp only [Act.put, List.setIfInBounds_toArray, List.set_cons_zero, List.set_cons_succ])
     refine plIn [2, 3, 4] ?_
     iterate 3
      refine hP (v := ?_) rfl rfl hHeld ?_ ?_
      rotate_left
      ·rintro wh ⟨⟨z0, z1, z2⟩, z3, z4, z5⟩
       go_simp
       (try with_reducible rfl)
      simp only [Act.put, List.setIfInBounds_toArray, List.set_cons_zero, List.set_cons_succ]
     refine plOut ?_
     refine held_call (i := 5) rfl (by kernel_rfl) (by rfl) (fun K hK => ?_)
     go_simp; refine (KL.out _).mono ?_; rintro e x2 ⟨rfl, hb2⟩; have HC2 := Lib.hid (HC1.out.trans (hb2.mono HC1.out.size)); clear hb2
     refine hK.out _ _ (SK.out _ HC2.out) (fun hHeld => ?_)
     clear hK K
     (try simp only [Act.put, List.setIfInBounds_toArray, List.set_cons_zero, List.set_cons_succ])
     refine plIn [6, 7, 8] ?_
     iterate 3
      refine hP (v := ?_) rfl rfl hHeld ?_ ?_
      rotate_left
      ·rintro wh ⟨⟨z0, z1, z2⟩, z3, z4, z5⟩
       go_simp
       (try with_reducible rfl)
      simp only [Act.put, List.setIfInBounds_toArray, List.set_cons_zero, List.set_cons_succ]
     refine plOut ?_
     refine plIn [9, 10, 11, 12, 13, 14, 15] ?_
     iterate 7
      refine hK rfl rfl hHeld ?_
      simp only [Act.put, List.setIfInBounds_toArray, List.set_cons_zero, List.set_cons_succ]
     refine plOut ?_
     refine plIn [16, 17] ?_
     iterate 2
      refine hP (v := ?_) rfl rfl hHeld ?_ ?_
      rotate_left
      ·rintro wh ⟨⟨z0, z1, z2⟩, z3, z4, z5⟩
       go_simp
       (try with_reducible rfl)
      simp only [Act.put, List.setIfInBounds_toArray, List.set_cons_zero, List.set_cons_succ]
     refine plOut ?_
     refine wpAnyH_done (by kernel_rfl) ?_ _
     have HE := Lib.hid (HT11.out.bl.trans (HC2.out.mono HT11.out.bl.size))
     go_wp2
     go_ret
     exact ⟨rfl, HE.out⟩
    | true =>
     obtain rfl : G2 = G1 := HQ.out rfl rfl
     have hgg : (G2 == G2) = true := by simp
     refine wp_region_held_drew (S := (fun W => (W.cell? ⟨gi, 0, none⟩ = some (.string nm) ∧ W.cell? ⟨gi, 1, none⟩ = some (.int .i64 0) ∧ W.cell? ⟨gi, 2, none⟩ = some (.string val)) ∧ W.cell? ⟨gl, 0, none⟩ = some (.string nm) ∧ W.cell? ⟨gl, 1, none⟩ = some (.int .i64 2) ∧ W.cell? ⟨gl, 2, none⟩ = some (.string qv))) (by kernel_rfl) (SK.out _ ((Below.refl _ _).drew)) (fun hHeld => ?_)
     have hbd : Below w11.heap.size w11 w11.drew := (Below.refl _ _).drew
     have HBD := Lib.hid hbd
     clear hbd
     generalize w11.drew = wd at *
     refine hT (i := 0) (v := ?_) rfl rfl hHeld ?_ ?_
     rotate_left
     ·rintro wh ⟨⟨z0, z1, z2⟩, z3, z4, z5⟩
      go_simp
      (try with_reducible rfl)
     simp only [Act.put, List.setIfInBounds_toArray, List.set_cons_zero, List.set_cons_succ]
     refine held_call (i := 1) rfl (by kernel_rfl) (by rfl) (fun K hK => ?_)
     go_simp; refine (KI.out _).mono ?_; rintro e x1 ⟨rfl, hb1⟩; have HC1 := Lib.hid (HBD.out.trans (hb1.mono HBD.out.size)); clear hb1
     refine hK.out _ _ (SK.out _ HC1.out) (fun hHeld => ?_)
     clear hK K
     (try simp only [Act.put, List.setIfInBounds_toArray, List.set_cons_zero, List.set_cons_succ])
     refine plIn [2, 3, 4] ?_
     iterate 3
      refine hP (v := ?_) rfl rfl hHeld ?_ ?_
      rotate_left
      ·rintro wh ⟨⟨z0, z1, z2⟩, z3, z4, z5⟩
       go_simp
       (try with_reducible rfl)
      simp only [Act.put, List.setIfInBounds_toArray, List.set_cons_zero, List.set_cons_succ]
     refine plOut ?_
     refine held_call (i := 5) rfl (by kernel_rfl) (by rfl) (fun K hK => ?_)
     go_simp; refine (KL.out _).mono ?_; rintro e x2 ⟨rfl, hb2⟩; have HC2 := Lib.hid (HC1.out.trans (hb2.mono HC1.out.size)); clear hb2
     refine hK.out _ _ (SK.out _ HC2.out) (fun hHeld => ?_)
     clear hK K
     (try simp only [Act.put, List.setIfInBounds_toArray, List.set_cons_zero, List.set_cons_succ])
     refine plIn [6, 7, 8, 9, 10, 12, 13] ?_
     iterate 7
      refine hP (v := ?_) rfl rfl hHeld ?_ ?_
      rotate_left
      ·rintro wh ⟨⟨z0, z1, z2⟩, z3, z4, z5⟩
       go_simp
       (try with_reducible rfl)
      simp only [Act.put, List.setIfInBounds_toArray, List.set_cons_zero, List.set_cons_succ]
     refine plOut ?_
     refine held_call (i := 11) rfl (by kernel_rfl) (by rfl) (fun K hK => ?_)
     go_simp; refine (KMI.out _ HC2.out).mono ?_; rintro e x3 ⟨rfl, hb3⟩; have HC3 := Lib.hid (HC2.out.trans (hb3.mono HC2.out.size)); clear hb3
     refine hK.out _ _ (SK.out _ HC3.out) (fun hHeld => ?_)
     clear hK K
     (try simp only [Act.put, List.setIfInBounds_toArray, List.set_cons_zero, List.set_cons_succ])
     refine held_call (i := 14) rfl (by kernel_rfl) (by rfl) (fun K hK => ?_)
     go_simp; refine (KML.out _ HC3.out).mono ?_; rintro e x4 ⟨rfl, hb4⟩; have HC4 := Lib.hid (HC3.out.trans (hb4.mono HC3.out.size)); clear hb4
     refine hK.out _ _ (SK.out _ HC4.out) (fun hHeld => ?_)
     clear hK K
     (try simp only [Act.put, List.setIfInBounds_toArray, List.set_cons_zero, List.set_cons_succ])
     refine plIn [15, 16, 17] ?_
     iterate 3
      refine hP (v := ?_) rfl rfl hHeld ?_ ?_
      rotate_left
      ·rintro wh ⟨⟨z0, z1, z2⟩, z3, z4, z5⟩
       go_simp
       (try with_reducible rfl)
      simp only [Act.put, List.setIfInBounds_toArray, List.set_cons_zero, List.set_cons_succ]
     refine plOut ?_
     refine wpAnyH_done (by kernel_rfl) ?_ _
     have HE := Lib.hid (HT11.out.bl.trans (HC4.out.mono HT11.out.bl.size))
     go_wp2
     go_ret
     exact ⟨rfl, HE.out⟩
theorem walk (v0 : Value) (l : List Fld) (v1 : Value) (m0 : Mt) (w : World) (hv : ArgFlds w v0 l) (hm : ArgMt v1 m0) :
  Calls Tryz.prog 5 #[v0, v1] w fun e w' => e = .returned (.bool true) ∧ Below w.heap.size w w' := by
 obtain ⟨rfl, hf⟩ := hm
 exact walk0 v0 l m0 w hv hf
end lawTurns
end Go.Proofs.YtgbapkechngnmaaGreat
/- lychgateref06.Read: a contract: the same as match.Read's. -/
namespace Go.Proofs.YtgbapkechngnmaaGreat
open Go.RowKit
/-! plain -/
def refA (first : Bool) (s : List UInt8) : Option (List Mt) := refP s.length first s
theorem refA_nil (f : Bool) : refA f [] = some [] := by unfold refA; rw [refP_eq, if_pos rfl]
def preR (first : Bool) (s : List UInt8) : Option (List UInt8) := if first then some s else if s.head? = some 44 then some s.tail else none
theorem preR_len {f : Bool} {s t : List UInt8} (h : preR f s = some t) : t.length ≤ s.length := by
 unfold preR at h
 split at h
 ·simp only [Option.some.injEq] at h; rw [← h]; exact Nat.le_refl _
 ·split at h
  ·simp only [Option.some.injEq] at h; rw [← h, List.length_tail]; omega
  ·cases h
theorem refA_pre {f : Bool} {s : List UInt8} (h0 : s ≠ []) (h : preR f s = none) : refA f s = none := by
 unfold refA
 rw [refP_eq, if_neg h0]
 cases hs : s.length with
 | zero => rfl
 | succ k =>
  dsimp only
  unfold preR at h
  rw [h]
theorem refA_bad {f : Bool} {s t : List UInt8} (h0 : s ≠ []) (h : preR f s = some t) (h1 : oneL t = none) : refA f s = none := by
 unfold refA
 rw [refP_eq, if_neg h0]
 cases hs : s.length with
 | zero => rfl
 | succ k =>
  dsimp only
  unfold preR at h
  rw [h]
  dsimp only
  rw [h1]
theorem refA_one {f : Bool} {s t r : List UInt8} {m : Mt} (h0 : s ≠ []) (h : preR f s = some t) (h1 : oneL t = some (m, r)) : refA f s = (refA false r).map (m :: ·) := by
 have hl := preR_len h
 have hr := oneL_less h1
 have hs0 : s.length ≠ 0 := fun e => h0 (List.length_eq_zero_iff.1 e)
 unfold refA
 obtain ⟨k, hk⟩ : ∃ k, s.length = k + 1 := ⟨s.length - 1, by omega⟩
 rw [hk, refP_eq, if_neg h0]
 dsimp only
 unfold preR at h
 rw [h]
 dsimp only
 rw [h1]
 dsimp only
 rw [refP_fuel k r.length false r (by omega) (Nat.le_refl _)]
def wordQ (i : Nat) : ByteArray := match i with | 0 => ⟨#[61, 34]⟩ | 1 => ⟨#[33, 61, 34]⟩ | 2 => ⟨#[61, 126, 34]⟩ | _ => ⟨#[33, 126, 34]⟩
theorem wordQ_B {i : Nat} (h : i < 4) : B (wordQ i) = wordB (i : Int) ++ [34] := by
 rcases (show i = 0 ∨ i = 1 ∨ i = 2 ∨ i = 3 by omega) with rfl | rfl | rfl | rfl <;> rfl
theorem wordQ_size (i : Nat) : (wordQ i).size ≤ 3 := by
 unfold wordQ
 split <;> decide
def WInv (t : List UInt8) (i : Nat) (op : Int) (r : List UInt8) : Prop := (op = -1 ∧ r = t ∧ ∀ j : Nat, j < i → ¬ prefO t (j : Int)) ∨ (0 ≤ op ∧ op ≤ 3 ∧ t = wordB op ++ 34 :: r)
theorem WInv.start (t : List UInt8) : WInv t 0 (-1) t := .inl ⟨rfl, rfl, fun j h => absurd h (Nat.not_lt_zero j)⟩
theorem WInv.done {t r : List UInt8} {op : Int} (h : WInv t 4 op r) : opL t = (op, r) := by
 unfold opL
 rcases h with ⟨h1, h2, h3⟩ | ⟨h1, h2, h3⟩
 ·rw [opB_none (fun o h0 h4 => by
   have := h3 o.toNat (by omega)
   rwa [show ((o.toNat : Nat) : Int) = o by omega] at this), h1, h2]
 ·rw [h3, op_word h1 h2]
theorem WInv.skip {t r : List UInt8} {i : Nat} {op : Int} (h : WInv t i op r) (h0 : 0 ≤ op) : WInv t (i + 1) op r := by
 rcases h with ⟨h1, _, _⟩ | h
 ·omega
 ·exact .inr h
theorem WInv.miss {t r : List UInt8} {i : Nat} (hi : i < 4) (h : WInv t i (-1) r) (h0 : r.take (wordQ i).size ≠ B (wordQ i)) : WInv t (i + 1) (-1) r := by
 rcases h with ⟨h1, h2, h3⟩ | ⟨h1, _, _⟩
 ·refine .inl ⟨rfl, h2, fun j hj => ?_⟩
  by_cases hji : j < i
  ·exact h3 j hji
  ·obtain rfl : j = i := by omega
   rintro ⟨q, hq⟩
   apply h0
   rw [h2, hq, show wordB (j : Int) ++ 34 :: q = B (wordQ j) ++ q by rw [wordQ_B hi]; simp, ← len_B, List.take_left]
 ·omega
theorem WInv.hit {t r : List UInt8} {i : Nat} (hi : i < 4) (h : WInv t i (-1) r) (h0 : r.take (wordQ i).size = B (wordQ i)) : WInv t (i + 1) (i : Int) (r.drop (wordQ i).size) := by
 rcases h with ⟨h1, h2, h3⟩ | ⟨h1, _, _⟩
 ·refine .inr ⟨by omega, by omega, ?_⟩
  have := List.take_append_drop (wordQ i).size r
  rw [h0, wordQ_B hi] at this
  exact h2.symm.trans (this.symm.trans (by simp))
 ·omega
def valX (s : List UInt8) (acc r : List UInt8) : Prop := valL s = (valL r).map fun x => (acc ++ x.1, x.2)
theorem valX_start (s : List UInt8) : valX s [] s := by
 unfold valX
 cases valL s <;> rfl
theorem valX_end {s acc : List UInt8} (h : valX s acc []) : valL s = none := h
theorem valX_last {s acc : List UInt8} (h : valX s acc [92]) : valL s = none := h
theorem valX_quote {s acc q : List UInt8} (h : valX s acc (34 :: q)) : valL s = some (acc, q) := by
 unfold valX at h
 rw [h, valL_cons, if_pos rfl]
 simp
theorem valX_esc {s acc q : List UInt8} {d : UInt8} (h : valX s acc (92 :: d :: q)) : valX s (acc ++ [d]) q := by
 unfold valX at *
 rw [h, valL_cons, if_neg (by decide), if_pos rfl]
 simp only [Option.map_map]
 cases valL q <;> simp
theorem valX_plain {s acc q : List UInt8} {c : UInt8} (h : valX s acc (c :: q)) (h1 : c ≠ 34) (h2 : c ≠ 92) : valX s (acc ++ [c]) q := by
 unfold valX at *
 rw [h, valL_cons, if_neg h1, if_neg h2]
 simp only [Option.map_map]
 cases valL q <;> simp
theorem oneL_none {t r : List UInt8} {n : List UInt8} {op : Int} (h1 : t.dropWhile (fun c => !signB c) = n) (h2 : opL n = (op, r)) (h3 : valL r = none) : oneL t = none := by
 unfold oneL
 simp only [h1, h2, h3]
theorem oneL_some {t r v q : List UInt8} {a n : List UInt8} {op : Int} (h0 : t.takeWhile (fun c => !signB c) = a) (h1 : t.dropWhile (fun c => !signB c) = n) (h2 : opL n = (op, r)) (h3 : valL r = some (v, q)) : oneL t = some (⟨⟨a.toArray⟩, op, ⟨v.toArray⟩⟩, q) := by
 unfold oneL
 simp only [h0, h1, h2, h3]
theorem take_while_at {l : List UInt8} {p : UInt8 → Bool} {k : Nat} (h : ∀ c ∈ l.take k, p c = true) (hk : ∀ c, l[k]? = some c → p c = false) : l.takeWhile p = l.take k ∧ l.dropWhile p = l.drop k := by
 induction k generalizing l with
 | zero =>
  cases l with
  | nil => exact ⟨rfl, rfl⟩
  | cons c l =>
   have := hk c rfl
   rw [List.takeWhile_cons, List.dropWhile_cons, this]
   exact ⟨rfl, rfl⟩
 | succ k ih =>
  cases l with
  | nil => exact ⟨rfl, rfl⟩
  | cons c l =>
   have h1 := h c (by simp)
   obtain ⟨i1, i2⟩ := ih (l := l) (fun x hx => h x (by simp [hx])) (fun x hx => hk x (by simpa using hx))
   rw [List.takeWhile_cons, List.dropWhile_cons, h1]
   simp [i1, i2]
theorem at_B (s : ByteArray) (k : Nat) (h : k < s.size) : (B s)[k]? = some s[k] := by
 rw [List.getElem?_eq_getElem (by rw [len_B]; exact h)]; rfl
def Wds (W : World) (g : Nat) : Prop := g < W.heap.size ∧ ∀ i : Nat, i < 4 → W.cell? ⟨g, i, none⟩ = some (.string (wordQ i))
theorem Wds.later {W W' : World} {g : Nat} (h : Wds W g) (hb : Below W.heap.size W W') : Wds W' g := ⟨Nat.lt_of_lt_of_le h.1 hb.size, fun i hi => keep_cell (h.2 i hi) hb h.1⟩
theorem Wds.set {W : World} {g b j : Nat} {v : Value} (h : Wds W g) (hn : b ≠ g) : Wds (W.setCell ⟨b, j, none⟩ v) g := ⟨by rw [World.size_setCell]; exact h.1, fun i hi => by rw [cell_farC hn]; exact h.2 i hi⟩
theorem Wds.new (W : World) : Wds (W.alloc (.cells #[.string ⟨#[61, 34]⟩, .string ⟨#[33, 61, 34]⟩, .string ⟨#[61, 126, 34]⟩, .string ⟨#[33, 126, 34]⟩] 9)) W.heap.size :=
 ⟨by rw [World.size_alloc]; omega, fun i hi => by
  rw [cell_of_row _ _ _ _ _ _ (heap_alloc_new _ _)]
  rcases (show i = 0 ∨ i = 1 ∨ i = 2 ∨ i = 3 by omega) with rfl | rfl | rfl | rfl <;> rfl⟩
structure RS (wr W : World) (g : Nat) (m : Mt) : Prop where
 bx : MtBox W g m
 bl : Below wr.heap.size wr W
 ge : wr.heap.size ≤ g
theorem RS.later {wr W W' : World} {g : Nat} {m : Mt} (h : RS wr W g m) (hb : Below W.heap.size W W') : RS wr W' g m := ⟨h.bx.later hb, h.bl.trans (hb.mono h.bl.size), h.ge⟩
theorem RS.setOp {wr W : World} {g : Nat} {m : Mt} (h : RS wr W g m) (o : Int) : RS wr (W.setCell ⟨g, 1, none⟩ (.int .i64 o)) g ⟨m.nm, o, m.val⟩ := ⟨h.bx.setOp o, h.bl.trans ((Below.refl _ _).setCell (p := ⟨g, 1, none⟩) h.ge _), h.ge⟩
theorem RS.setVal {wr W : World} {g : Nat} {m : Mt} (h : RS wr W g m) (v : ByteArray) : RS wr (W.setCell ⟨g, 2, none⟩ (.string v)) g ⟨m.nm, m.op, v⟩ := ⟨h.bx.setVal v, h.bl.trans ((Below.refl _ _).setCell (p := ⟨g, 2, none⟩) h.ge _), h.ge⟩
set_option maxHeartbeats 3200000 in
set_option maxRecDepth 100000 in
theorem rread6_any (s : ByteArray) (w : World) (hs : s.size ≤ 900000) : Calls Tryz.prog 29 #[.string s] w (ReadPost6 s w) := by
 obtain ⟨i0, hi0, hz0, hz1, hz2⟩ := info_parts info_mt
 have HREF := Lib.hid (ref_rd (B s) (B s).length (Nat.le_refl _))
 go_enter Tryz.func29, Tryz.ntmps29
 go_wp2_with fail
 go_loopw [4, 5] (fun v4 v5 wr => ∃ (lv : Value) (rest : ByteArray) (ms : List Mt), lv = v4 ∧ v5 = .string rest ∧ ms.length + rest.size ≤ s.size ∧ Hid (MtsFit ms) ∧ Hid (wr.ownsRow w.heap.size 29 3 lv ms.length (mtCells ms)) ∧ Hid (refA true (B s) = (refA (decide (ms = [])) (B rest)).map (ms ++ ·)) ∧ Hid (Below w.heap.size w wr)) (fun _ v _ => sizeS v)
 case atStart => exact ⟨_, s, [], rfl, rfl, Nat.le_of_eq (Nat.zero_add _), Lib.hid (fun _ h => by cases h), Lib.hid (World.ownsRow_nil _ _ _ _), Lib.hid (by simp), Lib.hid (Below.refl _ _)⟩
 case round =>
  obtain ⟨lv, rest, ms, rfl, rfl, hrz, HFIT, HOW, HRD, HB⟩ := hrel
  obtain ⟨la, lc, rfl, _, _⟩ := RdAt.shape (RdAt.own HOW.out)
  by_cases h0 : B rest = []
  ·have h0' : rest.toList = [] := by rw [toList_B]; exact h0
   have HQ : Hid (refA true (B s) = some ms) := Lib.hid (by rw [HRD.out, h0, refA_nil]; simp)
   have HRE : Hid ((if mtsOk ms = true ∧ textB ms = B s then some ms else none) = rdB 12 (B s)) := Lib.hid (by
    have := HREF.out
    have e := HQ.out
    unfold refA at e
    rw [e] at this
    exact this)
   have kt := rtext_any ms _ wr (RdAt.own HOW.out) HFIT.out (by omega)
   clear h0 HREF
   go_wp2_with fail
   refine kt.mono ?_
   rintro e w1 ⟨tx, n, rfl, hb1, htx⟩
   have HOW1 := Lib.hid (own_later HOW.out hb1)
   have HB1 := Lib.hid (HB.out.trans (hb1.mono HB.out.size))
   clear kt hb1 HOW HB
   rcases htx with ⟨h1, rfl, h3⟩ | ⟨h1, rfl, rfl⟩
   ·by_cases he : tx = s
    ·subst he
     have he' : (tx.toList == tx.toList) = true := by simp
     have HF : Hid (rdB 12 (B tx) = some ms) := Lib.hid (by rw [← HRE.out, if_pos ⟨h1, h3.symm⟩])
     go_wp2
     go_ret2
     exact ⟨_, _, rfl, HB1.out, .inl ⟨rfl, ms, HF.out, RdAt.own HOW1.out, HFIT.out⟩⟩
    ·have he' : (tx.toList == s.toList) = false := by
      rw [Bool.eq_false_iff]; exact fun h => he (bytes_eq_iff.1 h)
     have HF : Hid (rdB 12 (B s) = none) := Lib.hid (by rw [← HRE.out, if_neg (fun h => he (B_inj (h3.trans h.2)))])
     go_wp2
     go_ret2
     exact ⟨_, _, rfl, HB1.out, .inr ⟨rfl, HF.out, rfl⟩⟩
   ·have HF : Hid (rdB 12 (B s) = none) := Lib.hid (by rw [← HRE.out, if_neg (fun h => by rw [h1] at h; exact absurd h.1 (by decide))])
    go_wp2
    go_ret2
    exact ⟨_, _, rfl, HB1.out, .inr ⟨rfl, HF.out, rfl⟩⟩
  ·have h0' := toList_ne h0
   have HNE := Lib.hid h0
   have hrp : 0 < rest.size := by rw [← len_B]; exact List.length_pos_iff.2 h0
   clear h0
   go_upto_if 17 with fail
   go_cut [5] (fun s5 wx => ∃ t : ByteArray, s5 = .string t ∧ t.size ≤ rest.size ∧ Hid (preR (decide (ms = [])) (B rest) = some (B t)) ∧ wx = wr)
   case first =>
    have z0 := at_B rest 0 hrp
    by_cases hm : ms = []
    ·have hml : ¬ (0 : Int) < (ms.length : Int) := by rw [hm]; decide
     have HP : Hid (preR (decide (ms = [])) (B rest) = some (B rest)) := Lib.hid (by rw [hm]; rfl)
     clear hm z0
     go_wp2
     go_meet
     case rel => exact ⟨rest, rfl, Nat.le_refl _, HP, rfl⟩
    ·have hml : (0 : Int) < (ms.length : Int) := by
      have := List.length_pos_iff.2 hm
      omega
     have hd : decide (ms = []) = false := decide_eq_false hm
     have hz0 : (0 : Int) ≤ 0 := by decide
     have hz1 : (0 : Int) < (rest.size : Int) := by omega
     obtain ⟨x, hx⟩ : ∃ x, rest[0] = x := ⟨_, rfl⟩
     have hhd : (B rest).head? = some x := by rw [List.head?_eq_getElem?, z0, hx]
     by_cases hc : x = 44
     ·have hc' : ((x.toNat : Int) != 44) = false := by rw [hc]; rfl
      have HP : Hid (preR (decide (ms = [])) (B rest) = some (B (rest.extract 1 rest.size))) := Lib.hid (by
       rw [hd, B_extract]
       unfold preR
       rw [hhd, hc]
       simp)
      have hz2 : (1 : Int) ≤ (rest.size : Int) := by omega
      clear hm z0 hd hhd hc
      go_wp2
      go_meet
      case rel => exact ⟨rest.extract 1 rest.size, rfl, by rw [ByteArray.size_extract]; omega, HP, rfl⟩
     ·have hc' : ((x.toNat : Int) != 44) = true := by
       rw [bne_iff_ne]; intro e; exact hc (UInt8.toNat_inj.1 (by show x.toNat = 44; omega))
      have HN : Hid (rdB 12 (B s) = none) := Lib.hid (by
       have e := HRD.out
       rw [refA_pre HNE.out (by rw [hd]; unfold preR; rw [hhd]; simp [hc])] at e
       have := HREF.out
       unfold refA at e
       rw [e] at this
       exact this.symm)
      clear hm z0 hd hhd hc HREF
      go_wp2
      go_ret2
      exact ⟨_, _, rfl, HB.out, .inr ⟨rfl, HN.out, rfl⟩⟩
   case rest =>
    obtain ⟨t, rfl, htz, HPRE, hwc⟩ := hcut
    subst hwc
    have HBAD : Hid (oneL (B t) = none → rdB 12 (B s) = none) := Lib.hid (fun h => by
     have e := HRD.out
     rw [refA_bad HNE.out HPRE.out h] at e
     have := HREF.out
     unfold refA at e
     rw [e] at this
     exact this.symm)
    have HONE : Hid (∀ m r, oneL (B t) = some (m, r) → refA true (B s) = (refA (decide (ms ++ [m] = [])) r).map ((ms ++ [m]) ++ ·)) := Lib.hid (fun m r h => by
     rw [HRD.out, refA_one HNE.out HPRE.out h, Option.map_map, show decide (ms ++ [m] = []) = false by simp]
     congr 1
     funext x
     simp)
    clear HREF HRD HPRE HNE
    go_wp2_with fail
    go_loopw [6] (fun v6 wy => ∃ k : Nat, v6 = .int .i64 k ∧ k ≤ t.size ∧ Hid (∀ c ∈ (B t).take k, (!signB c) = true) ∧ wy = wc) (fun v _ => t.size - (intOf v).toNat)
    case atStart => exact ⟨0, rfl, Nat.zero_le _, Lib.hid (fun c h => by simp at h), rfl⟩
    case round =>
     obtain ⟨k, rfl, hk, HK, rfl⟩ := hrel
     have hk0 : (0 : Int) ≤ (k : Int) := by omega
     go_upto_region 9 with fail
     go_cut [38] (fun s38 wx => wx = wr ∧ ((s38 = .bool true ∧ ∃ h : k < t.size, signB t[k] = false) ∨ (s38 = .bool false ∧ ∀ c, (B t)[k]? = some c → signB c = true)))
     case first =>
      by_cases hkt : k < t.size
      ·have hk1 : (k : Int) < (t.size : Int) := by omega
       have z0 := at_B t k hkt
       have hk2 : (k : Int).toNat = k := by omega
       obtain ⟨y, hy⟩ : ∃ y, t[k] = y := ⟨_, rfl⟩
       have hs : ∀ c, (B t)[k]? = some c → c = y := fun c h => by rw [z0, hy] at h; exact (Option.some.inj h).symm
       by_cases h1 : y = 61
       ·have h1' : ((y.toNat : Int) != 61) = false := by rw [h1]; rfl
        have HS : Hid (∀ c, (B t)[k]? = some c → signB c = true) := Lib.hid (fun c h => by rw [hs c h, h1]; rfl)
        clear h1 hs z0 HK
        go_wp2
        go_meet
        case rel => exact ⟨rfl, .inr ⟨rfl, HS.out⟩⟩
       ·have h1' : ((y.toNat : Int) != 61) = true := by
         rw [bne_iff_ne]; intro e; exact h1 (UInt8.toNat_inj.1 (by show y.toNat = 61; omega))
        by_cases h2 : y = 33
        ·have h2' : ((y.toNat : Int) != 33) = false := by rw [h2]; rfl
         have HS : Hid (∀ c, (B t)[k]? = some c → signB c = true) := Lib.hid (fun c h => by rw [hs c h, h2]; rfl)
         clear h1 h2 hs z0 HK
         go_wp2
         go_meet
         case rel => exact ⟨rfl, .inr ⟨rfl, HS.out⟩⟩
        ·have h2' : ((y.toNat : Int) != 33) = true := by
          rw [bne_iff_ne]; intro e; exact h2 (UInt8.toNat_inj.1 (by show y.toNat = 33; omega))
         have HS : Hid (∃ h : k < t.size, signB t[k] = false) := Lib.hid ⟨hkt, by rw [hy]; unfold signB; simp [h1, h2]⟩
         clear h1 h2 hs z0 HK
         go_wp2
         go_meet
         case rel => exact ⟨rfl, .inl ⟨rfl, HS.out⟩⟩
      ·have hk1 : ¬ (k : Int) < (t.size : Int) := by omega
       have HS : Hid (∀ c, (B t)[k]? = some c → signB c = true) := Lib.hid (fun c h => by
        rw [List.getElem?_eq_none (by rw [len_B]; omega)] at h
        cases h)
       clear HK
       go_wp2
       go_meet
       case rel => exact ⟨rfl, .inr ⟨rfl, HS.out⟩⟩
     case rest =>
      obtain ⟨rfl, ⟨rfl, hkt, hns⟩ | ⟨rfl, hsg⟩⟩ := hcut
      ·have HN : Hid (∀ c ∈ (B t).take (k + 1), (!signB c) = true) := Lib.hid (fun c h => by
        rw [List.take_add_one, at_B t k hkt] at h
        rcases List.mem_append.1 h with h | h
        ·exact HK.out c h
        ·simp at h
         rw [h, hns]
         rfl)
       clear hns HK
       go_wp2
       go_roundw
       case rel => exact ⟨k + 1, by go_num, by omega, HN, trivial⟩
       case measure => (simp [intOf]; try omega)
      ·obtain ⟨e1, e2⟩ := take_while_at (l := B t) (p := fun c => !signB c) (k := k) HK.out (fun c h => by rw [hsg c h]; rfl)
       obtain ⟨n1, hn1⟩ : ∃ n1, t.extract 0 k = n1 := ⟨_, rfl⟩
       obtain ⟨r1, hr1⟩ : ∃ r1, t.extract k t.size = r1 := ⟨_, rfl⟩
       have HT : Hid ((B t).takeWhile (fun c => !signB c) = B n1) := Lib.hid (by rw [e1, ← hn1, B_take])
       have HD : Hid ((B t).dropWhile (fun c => !signB c) = B r1) := Lib.hid (by rw [e2, ← hr1, B_extract])
       have hn1z : n1.size ≤ t.size := by rw [← hn1, ByteArray.size_extract]; omega
       have hr1z : r1.size ≤ t.size := by rw [← hr1, ByteArray.size_extract]; omega
       have hk1 : (k : Int) ≤ (t.size : Int) := by omega
       have hk2 : (k : Int).toNat = k := by omega
       clear e1 e2 hsg HK
       go_upto_region 12 with fail
       refine wp_forgetB (fun W => RS wc W wc.heap.size ⟨n1, -1, ⟨#[]⟩⟩) ⟨MtBox.new wc ⟨n1, -1, ⟨#[]⟩⟩, alloc_below wc (.cells #[.string n1, .int .i64 (-1), .string ⟨#[]⟩] 29), Nat.le_refl _⟩ (fun w2 hw2 => ?_)
       have HR2 := Lib.hid hw2
       clear hw2
       go_upto_region 14 with fail
       refine wp_forgetB (fun W => RS wc W wc.heap.size ⟨n1, -1, ⟨#[]⟩⟩ ∧ Wds W w2.heap.size) ⟨HR2.out.later (alloc_below w2 (.cells #[.string ⟨#[61, 34]⟩, .string ⟨#[33, 61, 34]⟩, .string ⟨#[61, 126, 34]⟩, .string ⟨#[33, 126, 34]⟩] 9)), Wds.new w2⟩ (fun w3 hw3 => ?_)
       have HR3 := Lib.hid hw3.1
       have HW3 := Lib.hid hw3.2
       have hne : wc.heap.size ≠ w2.heap.size := Nat.ne_of_lt HR2.out.bx.lt
       clear hw3 HR2 hk hk1 hk2
       generalize w2.heap.size = gw at *
       obtain ⟨g, hg⟩ : ∃ g, wc.heap.size = g := ⟨_, rfl⟩
       rw [hg] at HR3 hne
       rw [hg]
       go_wp2_with fail
       go_loopw [9, 5] (fun v9 v5 wy => ∃ (i : Nat) (op : Int) (r : ByteArray), v9 = .int .i64 i ∧ v5 = .string r ∧ i ≤ 4 ∧ r.size ≤ t.size ∧ Hid (-1 ≤ op ∧ op ≤ 3) ∧ Hid (WInv (B r1) i op (B r)) ∧ Hid (RS wc wy g ⟨n1, op, ⟨#[]⟩⟩) ∧ Hid (Wds wy gw)) (fun v _ _ => 4 - (intOf v).toNat)
       case atStart => exact ⟨0, -1, r1, rfl, rfl, by omega, hr1z, Lib.hid (by omega), Lib.hid (WInv.start _), HR3, HW3⟩
       case round =>
        obtain ⟨i, op, r, rfl, rfl, hi, hrz1, HOP, HWI, HRS, HWD⟩ := hrel
        have hi0 : (0 : Int) ≤ (i : Int) := by omega
        clear HR3 HW3
        by_cases hi4 : i < 4
        ·have hi4' : (i : Int) < 4 := by omega
         have hit : (i : Int).toNat = i := by omega
         have c1 := HRS.out.bx.c1
         have cw := HWD.out.2 i hi4
         have z1 := there_free HRS.out.bx.th 1 (by omega)
         have hqz := wordQ_size i
         dsimp only at c1
         by_cases hop : op < 0
         ·obtain rfl : op = -1 := by have := HOP.out; omega
          clear hop
          by_cases hl : (wordQ i).size ≤ r.size
          ·have hl' : ((wordQ i).size : Int) ≤ (r.size : Int) := by omega
           have hl0 : (0 : Int) ≤ ((wordQ i).size : Int) := by omega
           have hlt : ((wordQ i).size : Int).toNat = (wordQ i).size := by omega
           by_cases he : (B r).take (wordQ i).size = B (wordQ i)
           ·have HH := Lib.hid (HWI.out.hit hi4 he)
            have he' : ((r.extract 0 (wordQ i).size).toList == (wordQ i).toList) = true := by rw [beq_iff_eq, toList_B, toList_B, B_take, he]
            have hxz : (r.extract (wordQ i).size r.size).size ≤ t.size := by rw [ByteArray.size_extract]; omega
            rw [← B_extract] at HH
            clear he HWI hrz1
            have HSW : Hid (∀ W, Wds W gw → W.cell? ⟨gw, i, none⟩ = some (.string (wordQ i))) := Lib.hid (fun W h => h.2 i hi4)
            generalize wordQ i = wq at *
            go_wp2
            go_quiet (fail)
            have hbq : Below wr.heap.size wr (wr.drewN nq) := bl_drewN (Below.refl _ _) nq
            have HRS5 := Lib.hid (HRS.out.later hbq)
            have HWD5 := Lib.hid (HWD.out.later hbq)
            generalize wr.drewN nq = w5 at *
            clear hbq c1 cw z1 HRS HWD
            have c1 := HRS5.out.bx.c1
            have z1 := there_free HRS5.out.bx.th 1 (by omega)
            have cw := HSW.out _ (HWD5.out.set (j := 1) (v := .int .i64 (i : Int)) hne)
            dsimp only at c1
            go_wp2
            go_roundw
            case rel => exact ⟨i + 1, i, r.extract wq.size r.size, by go_num, rfl, by omega, hxz, Lib.hid (by omega), HH, Lib.hid (HRS5.out.setOp i), Lib.hid (HWD5.out.set hne)⟩
            case measure => (simp [intOf]; try omega)
           ·have HH := Lib.hid (HWI.out.miss hi4 he)
            have he' : ((r.extract 0 (wordQ i).size).toList == (wordQ i).toList) = false := by
             rw [Bool.eq_false_iff, ne_eq, beq_iff_eq, toList_B, toList_B, B_take]; exact he
            clear he HWI
            generalize wordQ i = wq at *
            go_wp2
            go_quiet (fail)
            have hbq : Below wr.heap.size wr (wr.drewN nq) := bl_drewN (Below.refl _ _) nq
            have HRS5 := Lib.hid (HRS.out.later hbq)
            have HWD5 := Lib.hid (HWD.out.later hbq)
            generalize wr.drewN nq = w5 at *
            clear hbq c1 cw z1 HRS HWD
            go_wp2
            go_roundw
            case rel => exact ⟨i + 1, -1, r, by go_num, rfl, by omega, hrz1, HOP, HH, HRS5, HWD5⟩
            case measure => (simp [intOf]; try omega)
          ·have hl' : ¬ ((wordQ i).size : Int) ≤ (r.size : Int) := by omega
           have HH := Lib.hid (HWI.out.miss hi4 (by
            intro h
            have := congrArg List.length h
            rw [List.length_take, len_B, len_B] at this
            omega))
           clear HWI
           generalize wordQ i = wq at *
           go_wp2
           go_quiet (fail)
           have hbq : Below wr.heap.size wr (wr.drewN nq) := bl_drewN (Below.refl _ _) nq
           have HRS5 := Lib.hid (HRS.out.later hbq)
           have HWD5 := Lib.hid (HWD.out.later hbq)
           generalize wr.drewN nq = w5 at *
           clear hbq c1 cw z1 HRS HWD
           go_wp2
           go_roundw
           case rel => exact ⟨i + 1, -1, r, by go_num, rfl, by omega, hrz1, HOP, HH, HRS5, HWD5⟩
           case measure => (simp [intOf]; try omega)
         ·have hop0 : 0 ≤ op := by omega
          have HH := Lib.hid (HWI.out.skip hop0)
          have hopd : decide (op < 0) = false := decide_eq_false hop
          clear HWI
          go_wp2
          go_quiet (fail)
          have hbq : Below wr.heap.size wr (wr.drewN nq) := bl_drewN (Below.refl _ _) nq
          have HRS5 := Lib.hid (HRS.out.later hbq)
          have HWD5 := Lib.hid (HWD.out.later hbq)
          generalize wr.drewN nq = w5 at *
          clear hbq c1 cw z1 HRS HWD
          go_wp2
          go_roundw
          case rel => exact ⟨i + 1, op, r, by go_num, rfl, by omega, hrz1, HOP, HH, HRS5, HWD5⟩
          case measure => (simp [intOf]; try omega)
        ·obtain rfl : i = 4 := by omega
         have HOPL := Lib.hid HWI.out.done
         clear HWI HWD hi0 hi
         go_wp2_with fail
         go_loopw [5] (fun v5 wy => ∃ (r3 vv : ByteArray), v5 = .string r3 ∧ r3.size + vv.size ≤ r.size ∧ Hid (valX (B r) (B vv) (B r3)) ∧ Hid (RS wc wy g ⟨n1, op, vv⟩)) (fun v _ => sizeS v)
         case atStart => exact ⟨r, ⟨#[]⟩, rfl, Nat.le_refl _, Lib.hid (valX_start _), HRS⟩
         case round =>
          clear HRS
          obtain ⟨r3, vv, rfl, hr3, HV, HRS⟩ := hrel
          have z0 : (0 : Int) ≤ 0 := by decide
          cases hB : B r3 with
          | nil =>
           have hl3 : r3.toList = [] := by rw [toList_B]; exact hB
           rw [hB] at HV
           have HN := Lib.hid (HBAD.out (oneL_none HD.out HOPL.out (valX_end HV.out)))
           have HBW := Lib.hid (HB.out.trans (HRS.out.bl.mono HB.out.size))
           clear hB HV
           go_wp2
           go_ret2
           exact ⟨_, _, rfl, HBW.out, .inr ⟨rfl, HN.out, rfl⟩⟩
          | cons c q =>
           have hl3 : r3.toList.isEmpty = false := toList_ne (by rw [hB]; simp)
           rw [hB] at HV
           have hqz : q.length + 1 = r3.size := by
            have := congrArg List.length hB
            rw [len_B] at this
            simp only [List.length_cons] at this
            omega
           have h30 : 0 < r3.size := by omega
           have z1 : (0 : Int) < (r3.size : Int) := by omega
           have z2 : (1 : Int) ≤ (r3.size : Int) := by omega
           have hc0 : r3[0] = c := by
            have := at_B r3 0 h30
            rw [hB] at this
            exact (Option.some.inj this).symm
           have HX : Hid (B (r3.extract 1 r3.size) = q) := Lib.hid (by rw [B_extract, hB]; rfl)
           have HX1 : Hid (B (r3.extract 0 1) = [c]) := Lib.hid (by rw [B_take, hB]; rfl)
           by_cases h34 : c = 34
           ·have hc' : ((c.toNat : Int) != 34) = false := by rw [h34]; rfl
            rw [h34] at HV
            have HV1 := Lib.hid (oneL_some HT.out HD.out HOPL.out (valX_quote HV.out))
            have HON := Lib.hid (HONE.out _ _ HV1.out)
            rw [mk_B, mk_B, ← HX.out] at HON
            have hmf : MtFit ⟨n1, op, vv⟩ := ⟨by unfold maxLen; show n1.size ≤ _; omega, by unfold maxLen; show vv.size ≤ _; omega⟩
            have HMF := Lib.hid hmf
            have c0 := HRS.out.bx.c0
            have c1 := HRS.out.bx.c1
            have c2 := HRS.out.bx.c2
            dsimp only at c0 c1 c2
            have HOX := Lib.hid (own_later HOW.out HRS.out.bl)
            have HBW := Lib.hid (HB.out.trans (HRS.out.bl.mono HB.out.size))
            have hown := own_later HOX.out (alloc_below wr (.cells #[.string n1, .int .i64 op, .string vv] 29))
            have hrow := row_mt wr ⟨n1, op, vv⟩
            have HBX := Lib.hid (HBW.out.trans ((alloc_below wr (.cells #[.string n1, .int .i64 op, .string vv] 29)).mono HBW.out.size))
            have hbase := HBX.out.size
            dsimp only at hrow
            have hxz : (r3.extract 1 r3.size).size + 1 = r3.size := by rw [ByteArray.size_extract]; omega
            clear hB HV h34 HV1 HOP HOPL HD HT HONE HBAD HOX HBW hmf
            go_wp2_with (at_builtin; (refine wpList_append_rd rfl (.tmp 115) (.tmp 117) 23 rfl w.heap.size 29 i0 (.agg #[.string ⟨#[]⟩, .int .i64 0, .string ⟨#[]⟩]) 3 40 Tryz.underlying23 hi0 hz0 hz1 hz2 rfl (by decide) (.slice la ms.length lc) ms.length (mtCells ms) rfl hown _ 1 _ rfl hrow (mt1_cells ⟨n1, op, vv⟩) (by unfold maxLen; omega) (by omega) hbase ?_); intro v' w6 hown6 hgrow6; have HO6 := Lib.hid hown6; have HB6 := Lib.hid (HBX.out.grown hgrow6 hbase (fun q hq => (hown.lt q hq).1)); clear hown6 hgrow6)
            go_roundw
            case rel => exact ⟨v', r3.extract 1 r3.size, ms ++ [⟨n1, op, vv⟩], rfl, rfl, by rw [List.length_append]; simp only [List.length_cons, List.length_nil]; omega, Lib.hid (fun x hx => by rcases List.mem_append.1 hx with h | h; exact HFIT.out x h; rw [List.mem_singleton.1 h]; exact HMF.out), Lib.hid (by rw [List.length_append, mtCells_append]; exact HO6.out), HON, HB6⟩
            case measure => (show (r3.extract 1 r3.size).size < rest.size; omega)
           ·have hc' : ((c.toNat : Int) != 34) = true := by
             rw [bne_iff_ne]; intro e; exact h34 (UInt8.toNat_inj.1 (by show c.toNat = 34; omega))
            go_upto_if 98 with fail
            go_cut [5] (fun s5 wx => ∃ (r4 : ByteArray) (d : UInt8) (q' : List UInt8), s5 = .string r4 ∧ r4.size ≤ r3.size ∧ Hid (B r4 = d :: q') ∧ Hid (valX (B r) (B vv ++ [d]) q') ∧ wx = wr)
            case first =>
             by_cases h92 : c = 92
             ·have hc2 : ((c.toNat : Int) == 92) = true := by rw [h92]; rfl
              rw [h92] at HV
              cases q with
              | nil =>
               have HN := Lib.hid (HBAD.out (oneL_none HD.out HOPL.out (valX_last HV.out)))
               have HBW := Lib.hid (HB.out.trans (HRS.out.bl.mono HB.out.size))
               have hl4 : (r3.extract 1 r3.size).toList = [] := by rw [toList_B]; exact HX.out
               clear hB HV h34 h92
               go_wp2
               go_ret2
               exact ⟨_, _, rfl, HBW.out, .inr ⟨rfl, HN.out, rfl⟩⟩
              | cons d q =>
               have hl4 : (r3.extract 1 r3.size).toList.isEmpty = false := toList_ne (by rw [HX.out]; simp)
               have HV2 := Lib.hid (valX_esc HV.out)
               clear hB HV h34 h92
               go_wp2
               go_meet
               case rel => exact ⟨_, d, q, rfl, by rw [ByteArray.size_extract]; omega, HX, HV2, rfl⟩
             ·have hc2 : ((c.toNat : Int) == 92) = false := by
               rw [beq_eq_false_iff_ne]; intro e; exact h92 (UInt8.toNat_inj.1 (by show c.toNat = 92; omega))
              have HV2 := Lib.hid (valX_plain HV.out h34 h92)
              have HB3 := Lib.hid hB
              clear hB HV h34 h92
              go_wp2
              go_meet
              case rel => exact ⟨r3, c, q, rfl, Nat.le_refl _, HB3, HV2, rfl⟩
            case rest =>
             obtain ⟨r4, d, q', rfl, hr4z, HB4, HV4, hwc⟩ := hcut
             subst hwc
             clear HV HX HX1 hB h34 hqz z1 z2 hc0 hl3
             have hq4 : q'.length + 1 = r4.size := by
              have := congrArg List.length HB4.out
              rw [len_B] at this
              simp only [List.length_cons] at this
              omega
             have z1 : (0 : Int) < (r4.size : Int) := by omega
             have z2 : (1 : Int) ≤ (r4.size : Int) := by omega
             have HX : Hid (B (r4.extract 1 r4.size) = q') := Lib.hid (by rw [B_extract, HB4.out]; rfl)
             have HX1 : Hid (B (vv ++ r4.extract 0 1) = B vv ++ [d]) := Lib.hid (by rw [B_append, B_take, HB4.out]; rfl)
             rw [← HX.out, ← HX1.out] at HV4
             have hz4 : (r4.extract 0 1).size = 1 := by rw [ByteArray.size_extract]; omega
             have hz5 : (r4.extract 1 r4.size).size + 1 = r4.size := by rw [ByteArray.size_extract]; omega
             have hmx : ¬ 9223372036854775807 < vv.size + (r4.extract 0 1).size := by omega
             have c2 := HRS.out.bx.c2
             have f2 := there_free HRS.out.bx.th 2 (by omega)
             dsimp only at c2
             have HRS5 := Lib.hid ((HRS.out.setVal (vv ++ r4.extract 0 1)).later ((Below.refl _ _).drew))
             dsimp only at HRS5
             go_wp2
             go_region
             go_wp2
             go_roundw
             case rel => exact ⟨_, _, rfl, by rw [ByteArray.size_append]; omega, HV4, HRS5⟩
             case measure => (show (r4.extract 1 r4.size).size < r3.size; omega)
end Go.Proofs.YtgbapkechngnmaaGreat
