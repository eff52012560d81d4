/- lychgatelaw22.few: a contract. -/
import Derived.Test.YtcfococinllcmaaGreatBkHatchT
import Derived.Maps.AppendAt
namespace Go.Proofs.YtcfococinllcmaaGreat
open Go.RowKit

/-- the first twelve fields -/
def cutA (x : Al) : Al := { x with fl := x.fl.take 12 }
theorem cutA_fit {x : Al} (h : AlFit x) : AlFit (cutA x) := ⟨h.src, fun f hf => h.fl f (List.mem_of_mem_take hf), Nat.le_trans (List.length_take_le' _ _) h.len, h.c⟩
theorem cut_fld {w : World} {v : Value} {fl : List Fld} (h : FldsAt w v fl) : ∃ a n c, v = .slice a n c ∧ n = fl.length ∧ n ≤ c ∧ FldsAt w (.slice a (min n 12) c) (fl.take 12) := by
  obtain ⟨a, c, rfl, hc, hr⟩ := RdAt.shape h
  refine ⟨a, _, c, rfl, rfl, hc, ?_⟩
  have := fld_take h (min fl.length 12) (by omega) (fun ha => by
    rcases Nat.eq_zero_or_pos fl.length with h0 | h0
    · exact h0
    · obtain ⟨_, _, h1, _⟩ := hr h0
      rw [ha] at h1; cases h1)
  have e : fl.take (min fl.length 12) = fl.take 12 := by
    rcases Nat.le_total fl.length 12 with h1 | h1
    · rw [Nat.min_eq_left h1, List.take_of_length_le h1, List.take_length]
    · rw [Nat.min_eq_right h1]
  rw [e] at this
  exact this
theorem alC_snoc (l : List (Al × Value)) (x : Al) (v : Value) : alCells (l ++ [(x, v)]) = alCells l ++ alC x v := by
  induction l with
  | nil => simp [alCells]
  | cons p l ih => simp [alCells, ih]
theorem alC_cells (l : List (Al × Value)) (h : ∀ p ∈ l, p.2.oneCell' = true) : ∀ y ∈ alCells l, y.oneCell' = true := by
  induction l with
  | nil => intro y hy; cases hy
  | cons p l ih =>
    intro y hy
    rcases List.mem_append.1 hy with h1 | h1
    · simp only [alC, List.mem_cons, List.mem_nil_iff, or_false] at h1
      rcases h1 with rfl | rfl | rfl | rfl | rfl | rfl
      · rfl
      · exact h p List.mem_cons_self
      all_goals rfl
    · exact ih (fun q hq => h q (List.mem_cons_of_mem _ hq)) y h1
theorem info_al : (Tryz.prog.info? 53).map (fun i => (i.zero, i.size, i.bytes)) = some (some (.agg #[.string ⟨#[]⟩, .slice none 0 0, .int .i64 0, .int .u32 0, .int .i64 0, .int .i64 0]), 6, 72) := by kernel_rfl
theorem info_ral : (Tryz.prog.info? 50).map (fun i => (i.zero, i.size, i.bytes)) = some (some (.agg #[.string ⟨#[]⟩, .slice none 0 0, .int .i64 0, .int .u32 0, .int .i64 0, .int .i64 0]), 6, 72) := by kernel_rfl
/-- what few carries, round by round -/
structure FewAt (w : World) (l0 : List (Al × Value)) (vo vd : Value) (k : Nat) (wr : World) : Prop where
  b : Below w.heap.size w wr
  mem : ∃ l1 : List (Al × Value), l1.length = k ∧ wr.ownsRow w.heap.size 53 6 vo k (alCells l1) ∧ wr.ownsRow w.heap.size 50 6 vd k (alCells l1) ∧ (vo.ownBlock = none ∨ vo.ownBlock ≠ vd.ownBlock) ∧
    l1.map (·.1) = (l0.take k).map (fun p => cutA p.1) ∧ ∀ p ∈ l1, FldsAt w p.2 p.1.fl ∧ AlFit p.1 ∧ p.2.oneCell' = true
theorem row6 (W : World) (a b c d e f : Value) (t : TypeId) : RdAt (W.alloc (.cells #[a, b, c, d, e, f] t)) (.slice (some ⟨W.heap.size, 0, none⟩) 1 1) 1 6 [a, b, c, d, e, f] :=
  RdAt.mk rfl (Nat.le_refl _) (by rw [World.size_alloc]; omega) (fun j x hj => by
    have hc : (W.alloc (.cells #[a, b, c, d, e, f] t)).cell? ⟨W.heap.size, j, none⟩ = _ := World.cell?_alloc_at _ _ _ _ rfl
    rw [Nat.zero_add, hc, ← Array.getElem?_toList]
    exact hj)
theorem alc6 (W : World) (a b c d e f : Value) (t : TypeId) : C6 W.heap.size a b c d e f (W.alloc (.cells #[a, b, c, d, e, f] t)) := by
  have hc : ∀ (i : Nat), (W.alloc (.cells #[a, b, c, d, e, f] t)).cell? ⟨W.heap.size, i, none⟩ = _ := fun i => World.cell?_alloc_at _ _ _ _ rfl
  exact ⟨hc 0, hc 1, hc 2, hc 3, hc 4, hc 5⟩
theorem C6.grown {p : Nat} {a b c d e f : Value} {W W' : World} {row : Option Nat} (h : C6 p a b c d e f W) (hg : W.grownBy W' row) (hne : some p ≠ row) : C6 p a b c d e f W' := by
  obtain ⟨h0, h1, h2, h3, h4, h5⟩ := h
  exact ⟨hg.cell h0 hne, hg.cell h1 hne, hg.cell h2 hne, hg.cell h3 hne, hg.cell h4 hne, hg.cell h5 hne⟩
theorem all6 {a b c d e f : Value} (ha : a.oneCell' = true) (hb : b.oneCell' = true) (hc : c.oneCell' = true) (hd : d.oneCell' = true) (he : e.oneCell' = true) (hf : f.oneCell' = true) : ∀ y ∈ [a, b, c, d, e, f], y.oneCell' = true := by
  intro y hy
  simp only [List.mem_cons, List.mem_nil_iff, or_false] at hy
  rcases hy with rfl | rfl | rfl | rfl | rfl | rfl <;> assumption
set_option maxHeartbeats 3200000 in
set_option maxRecDepth 100000 in
theorem few_any (l : List (Al × Value)) (v : Value) (w : World) (hl : AlsAt w v l) (hn : l.length ≤ maxLen) :
    Calls Tryz.prog 11 #[v] w fun e w' => ∃ v1 v2 l1, e = .returned (.tuple #[v1, v2]) ∧ Below w.heap.size w w' ∧ AlsAt w' v1 l1 ∧ AlsAt w' v2 l1 ∧ l1.map (·.1) = (l.take 12).map (fun p => cutA p.1) := by
  unfold maxLen at hn
  have hfld := hl.fld
  obtain ⟨la, lc, rfl, hlc, hlr⟩ := RdAt.shape hl.row
  have HLR := Lib.hid hlr
  have HFL := Lib.hid hfld
  obtain ⟨i0, hi, hz0, hz1, hz2⟩ := info_parts info_al
  obtain ⟨j0, hj, jz0, jz1, jz2⟩ := info_parts info_ral
  have HI := Lib.hid (And.intro hi (And.intro hz0 (And.intro hz1 hz2)))
  have HJ := Lib.hid (And.intro hj (And.intro jz0 (And.intro jz1 jz2)))
  clear hl hlr hfld hi hz0 hz1 hz2 hj jz0 jz1 jz2
  go_enter Tryz.func11, Tryz.ntmps11
  go_upto_region 4 with fail
  go_loopw [4, 5, 6, 7] (fun vo vd vi _ wr => ∃ k : Nat, k ≤ l.length ∧ k ≤ 12 ∧ vi = .int .i64 k ∧ Hid (FewAt w l vo vd k wr)) (fun _ _ vi _ _ => l.length - (intOf vi).toNat)
  case atStart => exact ⟨0, Nat.zero_le _, Nat.zero_le _, rfl, Lib.hid ⟨Below.refl _ _, [], rfl, World.ownsRow_nil _ _ _ _, World.ownsRow_nil _ _ _ _, .inl rfl, rfl, fun p hp => by cases hp⟩⟩
  case round =>
    obtain ⟨k, hk, hk12, rfl, HF⟩ := hrel
    by_cases hkl : k < l.length ∧ k < 12
    · obtain ⟨hkl, hkt⟩ := hkl
      obtain ⟨b, o, rfl, hbl, hcell⟩ := HLR.out (by omega)
      have hat := alCells_at l k hkl
      have hbr := HF.out.b
      have q0 := keep_cell (hcell _ _ (hat 0 _ rfl)) hbr hbl
      have q1 := keep_cell (hcell _ _ (hat 1 _ rfl)) hbr hbl
      have q2 := keep_cell (hcell _ _ (hat 2 _ rfl)) hbr hbl
      have q3 := keep_cell (hcell _ _ (hat 3 _ rfl)) hbr hbl
      have q4 := keep_cell (hcell _ _ (hat 4 _ rfl)) hbr hbl
      have q5 := keep_cell (hcell _ _ (hat 5 _ rfl)) hbr hbl
      rw [Nat.add_zero] at q0
      rw [← Nat.add_assoc] at q1 q2 q3 q4 q5
      obtain ⟨hfk, hfitk⟩ := HFL.out _ (List.getElem_mem hkl)
      obtain ⟨va, vn, vc, hsh, hvn, hvc, hcut⟩ := cut_fld hfk
      rw [hsh] at q1
      have HLK : Hid (l[k].1 = l[k].1) := Lib.hid rfl
      obtain ⟨A, hA⟩ : ∃ A, l[k].1 = A := ⟨_, rfl⟩
      rw [hA] at q0 q2 q3 q4 q5 hcut hfitk hvn
      have HA := Lib.hid hA
      have HCU := Lib.hid hcut
      have HFI := Lib.hid hfitk
      obtain ⟨src, fls, alv, ac, afr, atil⟩ := A
      dsimp only at q0 q2 q3 q4 q5 hvn
      have hvl : vn ≤ 9223372036854775807 := by have := hfitk.len; unfold maxLen at this; dsimp only at this; omega
      have hk0 : (0 : Int) ≤ (k : Int) := by omega
      have hk1 : (k : Int) < (l.length : Int) := by omega
      have hm0 : (0 : Int) ≤ min (vn : Int) 12 := by omega
      have hm1 : min (vn : Int) 12 ≤ (vn : Int) := by omega
      have hm2 : min (vn : Int) 12 ≤ (vc : Int) := by omega
      clear hcell hat hfk hA hcut hfitk hsh HLK hvn hbr
      go_upto_region 8 with fail
      have hmm : (min (vn : Int) 12).toNat = min vn 12 := by omega
      rw [hmm]
      generalize min vn 12 = m at *
      obtain ⟨hb, l1, hl1, ho, hd, hne, hmap, hfl⟩ := HF.out
      have hbase := hb.size
      have x6 := alc6 wr (.string src) (.slice va m vc) (.int .i64 alv) (.int .u32 ac) (.int .i64 afr) (.int .i64 atil) 50
      have hb1 := hb.alloc hb.size (.cells #[.string src, .slice va m vc, .int .i64 alv, .int .u32 ac, .int .i64 afr, .int .i64 atil] 50)
      have ho1 := ho.alloc (.cells #[.string src, .slice va m vc, .int .i64 alv, .int .u32 ac, .int .i64 afr, .int .i64 atil] 50)
      have hd1 := hd.alloc (.cells #[.string src, .slice va m vc, .int .i64 alv, .int .u32 ac, .int .i64 afr, .int .i64 atil] 50)
      have hs1 := World.size_alloc wr (.cells #[.string src, .slice va m vc, .int .i64 alv, .int .u32 ac, .int .i64 afr, .int .i64 atil] 50)
      have hdl := hd.lt
      have hol := ho.lt
      generalize wr.alloc (.cells #[.string src, .slice va m vc, .int .i64 alv, .int .u32 ac, .int .i64 afr, .int .i64 atil] 50) = W1 at *
      have hd2 := hd1.alloc (.cells #[.string src, .slice va m vc, .int .i64 alv, .int .u32 ac, .int .i64 afr, .int .i64 atil] 50)
      have ho2 := ho1.alloc (.cells #[.string src, .slice va m vc, .int .i64 alv, .int .u32 ac, .int .i64 afr, .int .i64 atil] 50)
      have hr2 := row6 W1 (.string src) (.slice va m vc) (.int .i64 alv) (.int .u32 ac) (.int .i64 afr) (.int .i64 atil) 50
      have hb2 := hb1.alloc hb1.size (.cells #[.string src, .slice va m vc, .int .i64 alv, .int .u32 ac, .int .i64 afr, .int .i64 atil] 50)
      have hs2 := World.size_alloc W1 (.cells #[.string src, .slice va m vc, .int .i64 alv, .int .u32 ac, .int .i64 afr, .int .i64 atil] 50)
      have hx6 : Hid (C6 wr.heap.size _ _ _ _ _ _ _) := Lib.hid (x6.later (alloc_below W1 (.cells #[.string src, .slice va m vc, .int .i64 alv, .int .u32 ac, .int .i64 afr, .int .i64 atil] 50)) (by omega))
      obtain ⟨x0, x1, x2, x3, x4, x5⟩ := x6
      obtain ⟨hi, hz0, hz1, hz2⟩ := HI.out
      obtain ⟨hj, jz0, jz1, jz2⟩ := HJ.out
      have h1s := all6 (a := .string src) (b := .slice va m vc) (c := .int .i64 alv) (d := .int .u32 ac) (e := .int .i64 afr) (f := .int .i64 atil) rfl rfl rfl rfl rfl rfl
      have P1 := Lib.hid (And.intro hd2 (And.intro hr2 (And.intro hb2 (And.intro ho2 (And.intro hb1 (And.intro ho1 (And.intro hdl hol)))))))
      have P2 := Lib.hid (And.intro hl1 (And.intro hne (And.intro hmap hfl)))
      have P3 := Lib.hid (And.intro hs1 (And.intro hs2 hbase))
      clear hd2 hr2 hb2 ho2 hb1 ho1 hdl hol hl1 hne hmap hfl hs1 hs2 hbase ho hd hd1 hb HF
      go_upto_region 9 with (at_builtin; (refine wpList_append_rd2 rfl (.tmp 30) (.tmp 32) 23 rfl w.heap.size 50 j0 (.agg #[.string ⟨#[]⟩, .slice none 0 0, .int .i64 0, .int .u32 0, .int .i64 0, .int .i64 0]) 6 72 Tryz.underlying23 hj jz0 jz1 jz2 rfl (by decide) _ k (alCells l1) rfl P1.out.1 _ 1 [.string src, .slice va m vc, .int .i64 alv, .int .u32 ac, .int .i64 afr, .int .i64 atil] rfl P1.out.2.1 h1s (by unfold maxLen; omega) (by omega) (by have := P3.out; omega) ?_); intro vd' W3 hown' hgrow' hcase')
      obtain ⟨_, hr2, hb2, ho2, hb1, ho1, hdl, hol⟩ := P1.out
      obtain ⟨hl1, hne, hmap, hfl⟩ := P2.out
      obtain ⟨hs1, hs2, hbase⟩ := P3.out
      have X3 := hx6.out.grown hgrow' (fun e => by have := (hdl _ e.symm).2; omega)
      have ho3 := ho2.kept hgrow' hne
      have hb3 := hb2.grown hgrow' hb2.size (fun j hj => (hdl j hj).1)
      have hz3 := hgrow'.size
      have hne3 : u4.ownBlock = none ∨ u4.ownBlock ≠ vd'.ownBlock := by
        rcases hcase' with h | h
        · rw [h]; exact hne
        · right
          intro e
          rw [h] at e
          have := (hol _ e).2
          omega
      have hd4 := hown'.alloc (.cells #[.string src, .slice va m vc, .int .i64 alv, .int .u32 ac, .int .i64 afr, .int .i64 atil] 53)
      have ho4 := ho3.alloc (.cells #[.string src, .slice va m vc, .int .i64 alv, .int .u32 ac, .int .i64 afr, .int .i64 atil] 53)
      have hr4 := row6 W3 (.string src) (.slice va m vc) (.int .i64 alv) (.int .u32 ac) (.int .i64 afr) (.int .i64 atil) 53
      have hb4 := hb3.alloc hb3.size (.cells #[.string src, .slice va m vc, .int .i64 alv, .int .u32 ac, .int .i64 afr, .int .i64 atil] 53)
      have hs4 := World.size_alloc W3 (.cells #[.string src, .slice va m vc, .int .i64 alv, .int .u32 ac, .int .i64 afr, .int .i64 atil] 53)
      have hvl := hown'.lt
      obtain ⟨y0, y1, y2, y3, y4, y5⟩ := X3
      have Q1 := Lib.hid (And.intro ho4 (And.intro hr4 (And.intro hb4 (And.intro hd4 (And.intro hvl hol)))))
      have Q2 := Lib.hid (And.intro hl1 (And.intro hne3 (And.intro hmap hfl)))
      have Q3 := Lib.hid (And.intro hs4 hb3.size)
      clear hr2 hb2 ho2 hb1 ho1 hdl hol hl1 hne hmap hfl hs1 hs2 hbase ho3 hb3 hz3 hne3 hd4 ho4 hr4 hb4 hs4 hvl hown' hgrow' hcase' P1 P2 P3 hx6 x0 x1 x2 x3 x4 x5
      go_wp2_with (at_builtin; (refine wpList_append_rd2 rfl (.tmp 34) (.tmp 46) 28 rfl w.heap.size 53 i0 (.agg #[.string ⟨#[]⟩, .slice none 0 0, .int .i64 0, .int .u32 0, .int .i64 0, .int .i64 0]) 6 72 Tryz.underlying28 hi hz0 hz1 hz2 rfl (by decide) _ k (alCells l1) rfl Q1.out.1 _ 1 [.string src, .slice va m vc, .int .i64 alv, .int .u32 ac, .int .i64 afr, .int .i64 atil] rfl Q1.out.2.1 h1s (by unfold maxLen; omega) (by omega) (by have := Q3.out; omega) ?_); intro vo' W5 hown5 hgrow5 hcase5)
      have HN : Hid (FewAt w l vo' vd' (k + 1) W5) := by
        obtain ⟨ho4, hr4, hb4, hd4, hvl, hol⟩ := Q1.out
        obtain ⟨hl1, hne3, hmap, hfl⟩ := Q2.out
        obtain ⟨hs4, hb3s⟩ := Q3.out
        refine Lib.hid ⟨hb4.grown hgrow5 hb4.size (fun j hj => (hol j hj).1), l1 ++ [(cutA l[k].1, .slice va m vc)], by rw [List.length_append, hl1]; rfl, ?_, ?_, ?_, ?_, ?_⟩
        · rw [alC_snoc]; unfold alC cutA; rw [HA.out]; exact hown5
        · rw [alC_snoc]; unfold alC cutA; rw [HA.out]
          exact hd4.kept (row := u4.ownBlock) hgrow5 (by
            rcases hne3 with h | h
            · rw [h]
              cases hvb : vd'.ownBlock with
              | none => exact .inl rfl
              | some g => right; simp
            · exact .inr (Ne.symm h))
        · rcases hcase5 with h | h
          · rw [show vo'.ownBlock = u4.ownBlock from h]; exact hne3
          · right
            intro e
            rw [h] at e
            have := (hvl _ e.symm).2
            omega
        · rw [List.map_append, hmap, List.take_succ_eq_append_getElem hkl, List.map_append]; rfl
        · intro p hp
          rcases List.mem_append.1 hp with h | h
          · exact hfl p h
          · rw [List.mem_singleton.1 h]
            refine ⟨?_, cutA_fit (by rw [HA.out]; exact HFI.out), rfl⟩
            unfold cutA; rw [HA.out]; exact HCU.out
      clear Q1 Q2 Q3 hown5 hgrow5 hcase5 y0 y1 y2 y3 y4 y5
      go_roundw
      case rel => exact ⟨k + 1, by omega, by omega, by go_num, HN⟩
      case measure => (simp [intOf]; try omega)
    · have hfin : Hid (∃ l1, AlsAt wr u4 l1 ∧ AlsAt wr u5 l1 ∧ l1.map (·.1) = (l.take 12).map (fun p => cutA p.1)) := by
        obtain ⟨hb, l1, hl1, ho, hd, hne, hmap, hfl⟩ := HF.out
        have e : l.take k = l.take 12 := by
          rcases Nat.lt_or_ge k l.length with h | h
          · rw [show k = 12 by omega]
          · rw [List.take_of_length_le h, List.take_of_length_le (by omega)]
        rw [e] at hmap
        subst hl1
        exact Lib.hid ⟨l1, ⟨RdAt.own ho, fun p hp => ⟨(hfl p hp).1.later hb, (hfl p hp).2.1⟩⟩, ⟨RdAt.own hd, fun p hp => ⟨(hfl p hp).1.later hb, (hfl p hp).2.1⟩⟩, hmap⟩
      rcases (show k = l.length ∨ (k < l.length ∧ k = 12) by omega) with h | ⟨h, h'⟩
      · obtain rfl := h
        go_wp2
        go_ret2
        obtain ⟨l1, a1, a2, a3⟩ := hfin.out
        exact ⟨_, _, l1, rfl, HF.out.b, a1, a2, a3⟩
      · obtain rfl := h'
        have h12 : (12 : Int) < (l.length : Int) := by omega
        go_wp2
        go_ret2
        obtain ⟨l1, a1, a2, a3⟩ := hfin.out
        exact ⟨_, _, l1, rfl, HF.out.b, a1, a2, a3⟩
end Go.Proofs.YtcfococinllcmaaGreat
