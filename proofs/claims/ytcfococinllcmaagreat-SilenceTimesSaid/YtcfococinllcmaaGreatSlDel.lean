/- silences: maps.DeleteFunc, Forget. -/
import Derived.Test.YtcfococinllcmaaGreatSlT
import Derived.WalkKit
import Derived.Laws.IdiomRangeMap
import Derived.Deep.LoopGhost
import Derived.Maps.OwnSet
namespace Go.Proofs.YtcfococinllcmaaGreat
open Go.RowKit Go.Maps

theorem keyedI : Keyed Tryz.prog 3 := int_keyed Tryz.underlying3
theorem invKI (key : Value) (kl : Lit) (h : keyOf Tryz.prog 3 key = some kl) : ∃ x : Int, key = .int .i64 x := by
  obtain ⟨x, rfl, _⟩ := Maps.keyOf_int_inv Tryz.underlying3 h
  exact ⟨x, rfl⟩
theorem invVS (v : Value) (y : DataW Value × List MemPlace) (h : RV v = some y) : ∃ s : Sil, v = s.v := by
  obtain ⟨s, rfl, _⟩ := RV_inv h
  exact ⟨s, rfl⟩
/-- has it ended? -/
abbrev endS (now : Int) (s : Sil) : Bool := decide (s.til ≤ now)
theorem endS_v (now : Int) (s t : Sil) (h : s.v = t.v) : endS now s = endS now t := by
  simp only [Sil.v, Value.agg.injEq, Array.mk.injEq, List.cons.injEq, Value.int.injEq, true_and, and_true] at h
  unfold endS
  rw [h.2.2.1]
set_option maxHeartbeats 1600000 in
theorem forclos (x : Int) (s : Sil) (now : Int) (b : Nat) (w : World) (hc : w.cell? ⟨b, 0, none⟩ = some (.int .i64 now)) :
    Calls Tryz.prog 76 #[.int .i64 x, s.v, .pointer (some ⟨b, 0, none⟩)] w fun e w' => e = .returned (.bool (endS now s)) ∧ w.grownBy w' none := by
  have hb := alloc_below w (.cells #[.slice s.mv.1 s.mv.2.1 s.mv.2.2, .int .i64 s.fr, .int .i64 s.til, .int .i64 s.lv, .int .u32 s.c] 67)
  have h2 := box_later (Below.refl _ (w.alloc (.cells #[.slice s.mv.1 s.mv.2.1 s.mv.2.2, .int .i64 s.fr, .int .i64 s.til, .int .i64 s.lv, .int .u32 s.c] 67))) (i := 2) (x := .int .i64 s.til) rfl
  have h1 := keep_cell hc hb (cell_lt hc)
  have HG := Lib.hid (below_grown hb none)
  unfold Sil.v endS
  obtain ⟨id, ⟨a, n, c'⟩, ms, fr, til, lv, c⟩ := s
  dsimp only at *
  clear hb hc
  go_enter Tryz.func76, Tryz.ntmps76
  go_wp2
  go_ret
  exact ⟨by first | rfl | simp, HG.out⟩
set_option maxHeartbeats 4000000 in
set_option maxRecDepth 100000 in
/-- maps.DeleteFunc at silences -/
theorem mdel_any (m n : Nat) (S : List Sil) (hS : UpS S) (now : Int) (bx : Nat) (w : World) (hown : w.ownsMap Tryz.prog 3 RV m n (DS S)) (hc : w.cell? ⟨bx, 0, none⟩ = some (.int .i64 now)) (hne : bx ≠ m) :
    Calls Tryz.prog 75 #[.map (some m), .func (.func 76) #[] #[.pointer (some ⟨bx, 0, none⟩)]] w fun e w' =>
      e = .returned (.tuple #[]) ∧ w'.ownsMap Tryz.prog 3 RV m n (DS (S.filter fun s => !endS now s)) ∧ w.grownBy w' (some m) := by
  have eg : ∀ args w, (callFunc 76 args).run Tryz.prog w = .ok (.enter 76 args) w := enters_of Tryz.func76 (by kernel_rfl) rfl
  have K := keyedI
  have hkeys : ∀ p ∈ S.map enS, WideAt.IsKeyLit p.1 := fun p hp => by
    obtain ⟨s, _, rfl⟩ := List.mem_map.1 hp
    trivial
  have hap := DS_apart hS
  have HP := Lib.hid (DS_delf S (endS now) (endS_v now))
  have HQ := Lib.hid (fun k s => pdS_held (endS now) (endS_v now) k s)
  have hml := hown.lt
  have HO := Lib.hid hown
  have HC := Lib.hid (fun W (h : w.grownBy W (some m)) => cell_keepS hc h (fun e => hne (Option.some.inj e).symm))
  clear hc hown
  generalize hpd : pdS (endS now) = pd at *
  go_enter Tryz.func75, Tryz.ntmps75
  go_wp2_with (first
    | (at_range; refine wpList_range_own _ rfl _ 115 rfl 3 67 K Tryz.underlying115 RV m n _ rfl HO.out ?_; intro w0 hrg0 hg0 hs0)
    | go_in)
  go_frame
  have HB := Lib.hid (Fk_start (pd := pd) hkeys)
  have hap' : Hid _ := hap
  clear hap hkeys
  go_loopw [8] (fun _ wr => ∃ (left : Lit → Bool) (cnt : Nat), Hid (wr.ranges Tryz.prog 3 RV m w.heap.size n (Fk pd (S.map enS) left) left cnt) ∧ Hid (w.grownBy wr (some m)))
    (fun _ wr => wr.rangeLeft m w.heap.size)
  case atStart => exact ⟨_, _, Lib.hid (by rw [HB.out]; exact hrg0), Lib.hid (hg0.but _)⟩
  case round =>
    clear hrg0 hg0
    obtain ⟨left, cnt, HR, HW⟩ := hrel
    go_wp2_with (first
      | (at_next; refine wpList_next_ranges _ rfl _ rfl 3 K RV (fun x : Int => .int .i64 x) (fun s : Sil => s.v) invKI invVS m w.heap.size n _ _ _ rfl HR.out ?_ ?_)
      | go_in)
    · intro _ hl0
      have HL0 := Lib.hid hl0
      clear hl0
      go_wp2
      go_end0
      have hr := HR.out.owns
      rw [Fk_end HL0.out] at hr
      exact ⟨rfl, by rw [← HP.out]; exact hr, HW.out⟩
    · intro x s kl yd yp w1 cnt1 hkey hlx hv hat hrg1 hlt hg1 hs1 hen
      obtain ⟨s', hs', hy⟩ := RV_inv hv
      obtain rfl : yd = .held s.v := congrArg Prod.fst hy
      obtain ⟨x', ex, rfl, _⟩ := Maps.keyOf_int_inv Tryz.underlying3 hkey
      obtain rfl : x = x' := by simpa using ex
      have hgw1 := HW.out.andThen hg1 (fun j hj => by cases hj; exact Or.inl (Nat.le_refl _))
      have hba := World.grownBy_alloc w1 (.cells #[.slice s.mv.1 s.mv.2.1 s.mv.2.2, .int .i64 s.fr, .int .i64 s.til, .int .i64 s.lv, .int .u32 s.c] 67) none
      have hba' := alloc_below w1 (.cells #[.slice s.mv.1 s.mv.2.1 s.mv.2.2, .int .i64 s.fr, .int .i64 s.til, .int .i64 s.lv, .int .u32 s.c] 67)
      have hrg2 := hrg1.kept hba (by simp) (by simp)
      have hgw2 := hgw1.andThen hba (fun j hj => by cases hj)
      have hrefl := Below.refl (w1.alloc (.cells #[.slice s.mv.1 s.mv.2.1 s.mv.2.2, .int .i64 s.fr, .int .i64 s.til, .int .i64 s.lv, .int .u32 s.c] 67)).heap.size (w1.alloc (.cells #[.slice s.mv.1 s.mv.2.1 s.mv.2.2, .int .i64 s.fr, .int .i64 s.til, .int .i64 s.lv, .int .u32 s.c] 67))
      have y0 := box_later hrefl (i := 0) rfl
      have y1 := box_later hrefl (i := 1) rfl
      have y2 := box_later hrefl (i := 2) rfl
      have y3 := box_later hrefl (i := 3) rfl
      have y4 := box_later hrefl (i := 4) rfl
      rw [hs1] at y0 y1 y2 y3 y4
      have hcl := forclos x s now bx _ (HC.out _ hgw2)
      have HQ1 := Lib.hid (HQ.out (kI x) s)
      have HR2 := Lib.hid hrg2
      have HW2 := Lib.hid hgw2
      have HLX := Lib.hid hlx
      have HAT := Lib.hid hat
      have HHK := Lib.hid hkey
      have HLT := Lib.hid hlt
      unfold Sil.v at hen hcl
      clear hs' hy hv hkey hlx hat hrg1 hrg2 hlt hg1 hgw1 hgw2 hba hba' hrefl HC
      obtain ⟨id, ⟨a, sn, c'⟩, sms, fr, til, lv, c⟩ := s
      dsimp only at *
      go_upto_region 3 with fail
      change Code.wp _ _ _ _ (w1.alloc (.cells #[.slice a sn c', .int .i64 fr, .int .i64 til, .int .i64 lv, .int .u32 c] 67))
      generalize w1.alloc (.cells #[.slice a sn c', .int .i64 fr, .int .i64 til, .int .i64 lv, .int .u32 c] 67) = wa at *
      change Calls Tryz.prog 76 #[.int .i64 x, .agg #[.slice a sn c', .int .i64 fr, .int .i64 til, .int .i64 lv, .int .u32 c], .pointer (some ⟨bx, 0, none⟩)] wa (fun e w' => e = .returned (.bool (decide (til ≤ now))) ∧ wa.grownBy w' none) at hcl
      change Hid (pd (kI x) (.held (.agg #[.slice a sn c', .int .i64 fr, .int .i64 til, .int .i64 lv, .int .u32 c])) = decide (til ≤ now)) at HQ1
      obtain ⟨q, hq⟩ : ∃ q, decide (til ≤ now) = q := ⟨_, rfl⟩
      rw [hq] at hcl HQ1
      clear hq
      go_wp2_with fail
      refine hcl.mono ?_
      rintro e w2 ⟨rfl, hg2⟩
      have hrg3 := HR2.out.kept hg2 (by simp) (by simp)
      have HW3 := Lib.hid (HW2.out.andThen hg2 (fun j hj => by cases hj))
      have HR3 := Lib.hid hrg3
      clear hcl hg2 hrg3 y0 y1 y2 y3 y4
      cases q
      · go_wp2
        go_roundw
        case rel => exact ⟨_, cnt1, Lib.hid (by rw [← Fk_stays hap'.out (K.key HHK.out) HLX.out HQ1.out HAT.out]; exact HR3.out), HW3⟩
        case measure => rw [HR3.out.left_eq, HR.out.left_eq]; exact HLT.out
      · go_wp2_with (first
          | (at_delete; refine wpList_delete_ranges _ rfl _ _ 115 3 rfl 67 K Tryz.underlying115 RV m w.heap.size n _ _ _ rfl HR3.out _ _ rfl HHK.out ?_; intro w3 cnt3 hrg4 hle hturn; go_frame)
          | go_in)
        rw [strike_twice] at hrg4
        go_roundw
        case rel => exact ⟨_, cnt3, Lib.hid (by rw [← Fk_struck hap'.out (K.key HHK.out) HLX.out HQ1.out HAT.out]; exact hrg4), Lib.hid (HW3.out.andThen hturn.grown (fun j hj => by cases hj; exact Or.inr rfl))⟩
        case measure => rw [hrg4.left_eq, HR.out.left_eq]; have := HLT.out; omega
theorem count_split (S : List Sil) (now : Int) : (S.length : Int) - ((S.filter fun s => !endS now s).length : Int) = ((S.countP (endS now) : Nat) : Int) := by
  have h1 := List.length_eq_countP_add_countP (endS now) (l := S)
  have h2 : (S.filter fun s => !endS now s).length = S.countP (fun s => !endS now s) := List.countP_eq_length_filter.symm
  have h3 : S.countP (fun s => ¬ endS now s = true) = S.countP (fun s => !endS now s) := by
    congr 1
    funext s
    cases endS now s <;> simp
  omega
theorem SlAt.sub {w w' : World} {lp m n : Nat} {S : List Sil} {last : Int} (h : SlAt w lp m n S last) (p : Sil → Bool) (hk : Kp lp m w w') (h0 : w'.cell? ⟨lp, 0, none⟩ = some (.map (some m))) (h1 : w'.cell? ⟨lp, 1, none⟩ = some (.int .i64 last)) (ht : w'.there lp 0 2)
    (ho : w'.ownsMap Tryz.prog 3 RV m n (DS (S.filter p))) : SlAt w' lp m n (S.filter p) last :=
  ⟨h0, h1, ho, h.up.filter p, fun s hs => h.ids s ((List.mem_filter.1 hs).1), fun s hs => by
    obtain ⟨a, b, c, d⟩ := h.ms s ((List.mem_filter.1 hs).1)
    exact ⟨hk.rd a d, b, c, d⟩, ht, h.few, h.len⟩
set_option maxHeartbeats 1600000 in
set_option maxRecDepth 100000 in
/-- Forget -/
theorem forget_any (lp m n : Nat) (S : List Sil) (last now : Int) (w : World) (h : SlAt w lp m n S last) :
    Calls Tryz.prog 41 #[.pointer (some ⟨lp, 0, none⟩), .int .i64 now] w fun e w' =>
      e = .returned (.int .i64 ((S.countP (endS now) : Nat) : Int)) ∧ SlAt w' lp m n (S.filter fun s => !endS now s) last ∧ Kp lp m w w' := by
  have hb := alloc_below w (.cells #[.int .i64 now] 3)
  have hz := World.size_alloc w (.cells #[.int .i64 now] 3)
  have y0 := box_later (Below.refl (w.alloc (.cells #[.int .i64 now] 3)).heap.size (w.alloc (.cells #[.int .i64 now] 3))) (i := 0) (x := .int .i64 now) rfl
  have h1 := h.later hb
  have hml := h.own.lt
  have k := mdel_any m n S h.up now w.heap.size _ h1.own y0 (by omega)
  have l0 := h1.h0
  have len1 := h1.own.len Tryz.underlying115
  rw [DS_size] at len1
  have H1 := Lib.hid h1
  have HK1 := Lib.hid (Kp.of_below hb (lp := lp) (m := m))
  have HN := Lib.hid h1.ne
  have HS := Lib.hid (count_split S now)
  have hSl : S.length ≤ 1000000 := by
    have := h1.own.size_le
    rw [DS_size] at this
    exact Nat.le_trans this h1.len
  have hSf : (S.filter fun s => !endS now s).length ≤ S.length := List.length_filter_le _ _
  clear h1 h hb y0
  go_enter Tryz.func41, Tryz.ntmps41
  go_upto_region 4 with fail
  change Code.wp _ _ _ _ (w.alloc (.cells #[.int .i64 now] 3))
  generalize w.alloc (.cells #[.int .i64 now] 3) = w1 at *
  go_wp2_with fail
  refine k.mono ?_
  rintro e w2 ⟨rfl, ho2, hg2⟩
  have l2 := cell_keepS l0 hg2 (fun e => HN.out (Option.some.inj e).symm)
  have l3 := cell_keepS H1.out.h1 hg2 (fun e => HN.out (Option.some.inj e).symm)
  have len2 := ho2.len Tryz.underlying115
  rw [DS_size] at len2
  have HF := Lib.hid (H1.out.sub (fun s => !endS now s) (Kp.of_map hg2) l2 l3 (there_same H1.out.th (hg2.block lp (cell_lt H1.out.h0) (fun e => HN.out (Option.some.inj e)))) ho2)
  have HK2 := Lib.hid (HK1.out.trans (Kp.of_map hg2))
  generalize (S.filter fun s => !endS now s).length = n2 at *
  generalize S.length = n1 at *
  clear k ho2 hg2 l3 len1 l0
  go_wp2
  go_ret
  refine ⟨?_, HF.out, HK2.out⟩
  rw [← HS.out]
  first | rfl | (rw [IntWalk.wrap64_in _ ⟨by omega, by omega⟩])
end Go.Proofs.YtcfococinllcmaaGreat
