/- lychgateref12: Next. -/
import Derived.Test.YtkhcckfnaahbeaaRefAsk
namespace Go.Proofs.Ytkhcckfnaahbeaa
open Go.RowKit

set_option maxHeartbeats 3200000 in
set_option maxRecDepth 100000 in
theorem rnext_any (S : Ck) (ids : List Int) (w : World) (base p : Nat) (v : Value) (hC : RClkAt w base p S) (hids : IdsAt w v ids) (h12 : ids.length ≤ 12) (hS : S.Ok) (hbase : base ≤ w.heap.size) :
    Calls Try.prog 23 #[.pointer (some ⟨p, 0, none⟩), v] w fun e w' => e = .returned (.int .i64 (nextM S ids)) ∧ Below w.heap.size w w' := by
  obtain ⟨tv, c0, c1, c2, c3, c4, c5, c6, hp, hown, _⟩ := hC.cells
  obtain ⟨a, c, rfl, hc, _⟩ := RdAt.shape hids
  obtain ⟨at', ct, rfl, hct, _⟩ := RdAt.shape (RdAt.own hown)
  by_cases hne : ids = []
  · have hn : (ids.length : Int) = 0 := by rw [hne]; rfl
    have hdm : nextM S ids = -1 := by unfold nextM; rw [if_pos hne]
    rw [hdm]
    clear hdm hids hC hne hown
    go_enter Try.func23, Try.ntmps23
    go_wp2
    go_ret
    exact ⟨rfl, Below.refl _ _⟩
  · have hn : ¬ (ids.length : Int) = 0 := by intro h; exact hne (List.length_eq_zero_iff.1 (by omega))
    have hnb : ((ids.length : Int) == 0) = false := by simpa using hne
    have HNE := Lib.hid hne
    have hf0 := hS.f0
    have hn0 := hS.n0
    have hn1 := hS.n1
    have hf1 := hS.f1
    obtain ⟨F, hF⟩ : ∃ F, (if S.first = -1 then S.now else S.first) = F := ⟨_, rfl⟩
    have hF0 : 0 ≤ F := by rw [← hF]; split <;> omega
    obtain ⟨g, hg⟩ : ∃ g, gR F S ids = g := ⟨_, rfl⟩
    have hle := fromM_le hS ids (Int.le_refl S.now)
    have hfr : fromM S S.now ids = max g S.now := by rw [from_gR, hF, hg]
    rw [hfr] at hle
    have HNX : Hid (nextM S ids = if max g S.now ≤ 1099511627776 then max g S.now else -1) := Lib.hid (by unfold nextM; rw [if_neg hne, hfr])
    have hS1 : (Ck.mk S.wait S.gap S.rep F S.last S.now S.told).Ok := ⟨hS.w0, hS.w1, hS.g0, hS.g1, hS.r0, hS.r1, by show -1 ≤ F; omega, by show F ≤ S.now; rw [← hF]; split <;> omega, hS.l0, hS.l1, hS.n0, hS.n1, hS.t⟩
    have HDUE : Hid (∀ x, S.now ≤ x → x ≤ 1099511627776 → dueM (Ck.mk S.wait S.gap S.rep F S.last S.now S.told) x ids = decide (g ≤ x)) := Lib.hid (fun x h1 h2 => by
      have hat : atM (Ck.mk S.wait S.gap S.rep F S.last S.now S.told) x = x := atM_ok (by simp only [okM, decide_eq_true_eq]; omega)
      rw [due_gR hat hne]
      simp only [if_neg (by omega : ¬ F = -1)]
      exact decide_eq_decide.2 (by rw [← hg]; rfl))
    have hdue : ∀ W d x, RClkAt W base d (Ck.mk S.wait S.gap S.rep F S.last S.now S.told) → Below w.heap.size w W → Calls Try.prog 21 #[.pointer (some ⟨d, 0, none⟩), .int .i64 x, .slice a ids.length c] W fun e w' => e = .returned (.bool (dueM (Ck.mk S.wait S.gap S.rep F S.last S.now S.told) x ids)) ∧ Below W.heap.size W w' :=
      fun W d x h hb => rdue_any _ x ids W base d _ h (hids.later hb) h12 hS1
    have hR0 : RClkAt (w.alloc (.cells #[.int .i64 S.wait, .int .i64 S.gap, .int .i64 S.rep, .int .i64 F, .int .i64 S.last, .slice at' S.told.length ct, .int .i64 S.now] 39)) base w.heap.size (Ck.mk S.wait S.gap S.rep F S.last S.now S.told) :=
      ⟨hbase, _, heap_alloc_new _ _, own_later hown (alloc_below _ _)⟩
    have HR0 := Lib.hid hR0
    have HDU := Lib.hid hdue
    generalize nextM S ids = NX at *
    clear hids hC hne hown hfr hg hS hS1 hR0 hdue
    have hnN := hle.1
    generalize hSW : S.wait = wt at *
    generalize hSG : S.gap = gp at *
    generalize hSR : S.rep = rp at *
    generalize hSF : S.first = fi at *
    generalize hSL : S.last = la at *
    generalize hSN : S.now = nw at *
    generalize hST : S.told = td at *
    clear hSW hSG hSR hSF hSL hSN hST
    have body : ∀ (Q : World → Prop), True := fun _ => trivial
    clear body
    rcases Int.lt_or_le fi 0 with hf | hf
    · obtain rfl : fi = -1 := by omega
      obtain rfl : F = nw := by rw [← hF, if_pos rfl]
      clear hF
      go_enter Try.func23, Try.ntmps23
      go_wp2
      go_loopw [6] (fun vx wr => ∃ x : Int, vx = .int .i64 x ∧ F ≤ x ∧ x ≤ max g F ∧ RClkAt wr base w.heap.size (Ck.mk wt gp rp F la F td) ∧ Below w.heap.size w wr) (fun vx _ => (F + 102001 - intOf vx).toNat)
      case atStart => exact ⟨F, rfl, Int.le_refl _, by omega, HR0.out, alloc_below _ _⟩
      case round =>
        obtain ⟨x, rfl, hx0, hx1, hRr, hbr⟩ := hrel
        obtain ⟨tvr, _, _, _, _, _, _, e6, _, _, _⟩ := hRr.cells
        rcases Int.lt_or_le 1099511627776 x with hbig | hsm
        · have HN : Hid (NX = -1) := Lib.hid (by rw [HNX.out, if_neg (by omega)])
          clear HNX
          have HB := Lib.hid hbr
          clear hbr
          go_wp2
          go_ret
          exact ⟨by rw [HN.out]; rfl, HB.out⟩
        · have k1 := HDU.out wr w.heap.size x hRr hbr
          rw [HDUE.out x hx0 hsm] at k1
          rcases Int.lt_or_le x g with hxg | hxg
          · rw [decide_eq_false (by omega : ¬ g ≤ x)] at k1
            have HRr := Lib.hid hRr
            have HB := Lib.hid hbr
            clear hRr hbr
            go_wp2_with fail
            refine k1.mono ?_
            rintro e w2 ⟨rfl, hb2⟩
            have R2 := HRr.out.later hb2
            have B2 := HB.out.trans (hb2.mono HB.out.size)
            clear k1 hb2
            go_wp2
            go_roundw
            case rel => exact ⟨x + 1, rfl, by omega, by omega, R2, B2⟩
            case measure => simp [intOf]; omega
          · have HN : Hid (NX = x) := Lib.hid (by rw [HNX.out, if_pos (by omega)]; omega)
            rw [decide_eq_true hxg] at k1
            have HB := Lib.hid hbr
            clear hRr hbr HNX
            go_wp2_with fail
            refine k1.mono ?_
            rintro e w2 ⟨rfl, hb2⟩
            have B2 := HB.out.trans (hb2.mono HB.out.size)
            clear k1 hb2
            go_wp2
            go_ret
            exact ⟨by rw [HN.out]; rfl, B2⟩
    · have hfi : ¬ fi = -1 := by omega
      obtain rfl : F = fi := by rw [← hF, if_neg hfi]
      clear hF
      go_enter Try.func23, Try.ntmps23
      go_wp2
      go_loopw [6] (fun vx wr => ∃ x : Int, vx = .int .i64 x ∧ nw ≤ x ∧ x ≤ max g nw ∧ RClkAt wr base w.heap.size (Ck.mk wt gp rp F la nw td) ∧ Below w.heap.size w wr) (fun vx _ => (nw + 102001 - intOf vx).toNat)
      case atStart => exact ⟨nw, rfl, Int.le_refl _, by omega, HR0.out, alloc_below _ _⟩
      case round =>
        obtain ⟨x, rfl, hx0, hx1, hRr, hbr⟩ := hrel
        obtain ⟨tvr, _, _, _, _, _, _, e6, _, _, _⟩ := hRr.cells
        rcases Int.lt_or_le 1099511627776 x with hbig | hsm
        · have HN : Hid (NX = -1) := Lib.hid (by rw [HNX.out, if_neg (by omega)])
          clear HNX
          have HB := Lib.hid hbr
          clear hbr
          go_wp2
          go_ret
          exact ⟨by rw [HN.out]; rfl, HB.out⟩
        · have k1 := HDU.out wr w.heap.size x hRr hbr
          rw [HDUE.out x hx0 hsm] at k1
          rcases Int.lt_or_le x g with hxg | hxg
          · rw [decide_eq_false (by omega : ¬ g ≤ x)] at k1
            have HRr := Lib.hid hRr
            have HB := Lib.hid hbr
            clear hRr hbr
            go_wp2_with fail
            refine k1.mono ?_
            rintro e w2 ⟨rfl, hb2⟩
            have R2 := HRr.out.later hb2
            have B2 := HB.out.trans (hb2.mono HB.out.size)
            clear k1 hb2
            go_wp2
            go_roundw
            case rel => exact ⟨x + 1, rfl, by omega, by omega, R2, B2⟩
            case measure => simp [intOf]; omega
          · have HN : Hid (NX = x) := Lib.hid (by rw [HNX.out, if_pos (by omega)]; omega)
            rw [decide_eq_true hxg] at k1
            have HB := Lib.hid hbr
            clear hRr hbr HNX
            go_wp2_with fail
            refine k1.mono ?_
            rintro e w2 ⟨rfl, hb2⟩
            have B2 := HB.out.trans (hb2.mono HB.out.size)
            clear k1 hb2
            go_wp2
            go_ret
            exact ⟨by rw [HN.out]; rfl, B2⟩
end Go.Proofs.Ytkhcckfnaahbeaa
