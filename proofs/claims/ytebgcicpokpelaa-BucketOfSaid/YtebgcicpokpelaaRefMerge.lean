/- lychgateref22.Merge. -/
import Derived.Test.YtebgcicpokpelaaConcat
import Derived.Test.YtebgcicpokpelaaRefBk
import Derived.Test.YtebgcicpokpelaaBkPlain
import Derived.Test.YtebgcicpokpelaaAppRd
import Derived.Deep.DeepCutAuto
import Derived.Deep.RegionWith
import Derived.Deep.RegionHeldLaw
import Derived.Lib.Hide
namespace Go.Proofs.Ytebgcicpokpelaa
open Go.RowKit

theorem insU_zero {x : Int} {l : List Int} (hr : Rising l) (hhi : ∀ j (h : j < l.length), x < l[j]) : insU x l = [x] ++ l := by
  have := insU_at (x := x) (k := 0) hr (Nat.zero_le _) (fun j h _ => hhi j h) (fun h => absurd h (Nat.lt_irrefl _))
  simpa using this
theorem insU_mid {x : Int} {l : List Int} {k : Nat} (hr : Rising l) (hk : k < l.length) (hhi : ∀ j (h : j < l.length), k < j → x < l[j]) (hlo : l[k] < x) : insU x l = l.take (k + 1) ++ [x] ++ l.drop (k + 1) := by
  have := insU_at (x := x) (k := k + 1) hr hk (fun j h hj => hhi j h hj) (fun _ => by simp; omega)
  rw [this, if_pos (.inr ⟨Nat.succ_pos _, by simp; omega⟩)]
theorem insU_there {x : Int} {l : List Int} {k : Nat} (hr : Rising l) (hk : k < l.length) (hlo : l[k] = x) : insU x l = l := by
  refine rising_eq (rising_insU hr) hr (fun z => ?_)
  rw [mem_insU]
  constructor
  · rintro (rfl | h)
    · rw [← hlo]; exact List.getElem_mem _
    · exact h
  · exact .inr

theorem rd_one_new (w : World) (x : Value) (t : TypeId) : RdAt (w.alloc (.cells #[x] t)) (.slice (some ⟨w.heap.size, 0, none⟩) 1 1) 1 1 [x] :=
  RdAt.mk rfl (Nat.le_refl _) (by rw [World.size_alloc]; omega) (fun j y hj => by
    have hj0 : j = 0 := by have := (List.getElem?_eq_some_iff.1 hj).1; simpa using this
    subst hj0
    have := cell_one_new w x t 0 y hj
    simpa [Addr.add] using this)
theorem rd_empty (w : World) (ad : Addr) (m c : Nat) (h : m = 0) : RdAt w (.slice (some ad) m c) 0 1 [] := ⟨by simp, .inr ⟨ad, c, by rw [h], Nat.zero_le _, fun h => absurd h (Nat.lt_irrefl _)⟩⟩
theorem own_ins {w : World} {base base' : Nat} {v : Value} {k : Nat} {L : List Int} {x : Int} (h : w.ownsRow base 3 1 v (0 + k + 1 + (L.length - k)) ([] ++ (L.map I).take k ++ [I x] ++ (L.map I).drop k)) (hk : k ≤ L.length) (e : insU x L = L.take k ++ [x] ++ L.drop k) (hb : base' ≤ base) :
    w.ownsRow base' 3 1 v (insU x L).length ((insU x L).map I) := by
  have e1 : (insU x L).length = 0 + k + 1 + (L.length - k) := by rw [e]; simp; omega
  have e2 : (insU x L).map I = [] ++ (L.map I).take k ++ [I x] ++ (L.map I).drop k := by rw [e]; simp
  rw [e1, e2]
  exact own_base h hb

/-- numbers laid into a rising list, one behind the other -/
def fromL (A ids : List Int) : List Int := ids.foldl (fun l x => insU x l) A
theorem fromL_snoc (A ids : List Int) (x : Int) : fromL A (ids ++ [x]) = insU x (fromL A ids) := by simp [fromL, List.foldl_append]
theorem fromL_len (A ids : List Int) : (fromL A ids).length ≤ A.length + ids.length := by
  induction ids using snocInd with
  | h0 => simp [fromL]
  | h1 l c ih => rw [fromL_snoc, List.length_append]; have := insU_len c (fromL A l); simp; omega
theorem rising_fromL {A : List Int} (hA : Rising A) (ids : List Int) : Rising (fromL A ids) := by
  induction ids using snocInd with
  | h0 => exact hA
  | h1 l c ih => rw [fromL_snoc]; exact rising_insU ih
theorem fromL_set {A : List Int} (hA : Rising A) (ids : List Int) : fromL A ids = setL (A ++ ids) := by
  have e : setL A = A := (setL_of hA (fun z => by simp)).symm
  unfold fromL
  conv => lhs; rw [← e]
  unfold setL
  rw [List.foldl_append]
set_option maxHeartbeats 3200000 in
set_option maxRecDepth 100000 in
theorem refmerge_any (A ids : List Int) (w : World) (va v0 : Value) (ha : IntsAt w va A) (hids : IntsAt w v0 ids) (hlA : A.length ≤ 100) (hl : ids.length ≤ 100) :
    Calls Try.prog 19 #[va, v0] w fun e w' => ∃ v', e = .returned v' ∧ IntsAt w' v' (mergeL A ids) ∧ Below w.heap.size w w' := by
  have hba := fun w' (hb : Below w.heap.size w w') => bounds_any A w' va (ha.later hb) (by omega)
  have hbb := fun w' (hb : Below w.heap.size w w') => bounds_any ids w' v0 (hids.later hb) (by omega)
  obtain ⟨i0, hi, hz0, hz1, hz2⟩ := info_parts info_int
  cases hfa : fineL A
  · have HZ : Hid (mergeL A ids = []) := mergeL_bad (.inl hfa)
    rw [hfa] at hba
    have h1 := hba w (Below.refl _ _)
    clear hfa hba hbb ha hids
    go_enter Try.func19, Try.ntmps19
    go_wp2_with fail
    refine h1.mono ?_
    rintro e w1 ⟨rfl, hb1⟩
    go_wp2
    go_ret
    exact ⟨_, rfl, by rw [HZ.out]; exact IntsAt.nil _, hb1⟩
  rw [hfa] at hba
  have h1 := hba w (Below.refl _ _)
  cases hfb : fineL ids
  · have HZ : Hid (mergeL A ids = []) := mergeL_bad (.inr hfb)
    rw [hfb] at hbb
    have HB := Lib.hid hbb
    clear hfa hfb hba hbb ha hids
    go_enter Try.func19, Try.ntmps19
    go_wp2_with fail
    refine h1.mono ?_
    rintro e w1 ⟨rfl, hb1⟩
    have h2 := HB.out w1 hb1
    clear HB
    go_wp2_with fail
    refine h2.mono ?_
    rintro e w2 ⟨rfl, hb2⟩
    go_wp2
    go_ret
    exact ⟨_, rfl, by rw [HZ.out]; exact IntsAt.nil _, hb1.trans (hb2.mono hb1.size)⟩
  rw [hfb] at hbb
  have HM : Hid (mergeL A ids = (fromL A ids).take 20) := by show _ = _; rw [fromL_set (fineL_iff.1 hfa).2.2.1]; unfold mergeL; rw [hfa, hfb]; rfl
  have HA : Hid (Rising A) := (fineL_iff.1 hfa).2.2.1
  have HB := Lib.hid hbb
  clear hfa hfb hba hbb
  obtain ⟨a0, c0, rfl, hc0, hr0⟩ := RdAt.shape hids
  have HIDS := Lib.hid hids
  have HAA := Lib.hid ha
  clear hids hr0 ha
  go_enter Try.func19, Try.ntmps19
  go_wp2_with fail
  refine h1.mono ?_
  rintro e w1 ⟨rfl, hb1⟩
  have h2 := HB.out w1 hb1
  clear HB h1
  go_wp2_with fail
  refine h2.mono ?_
  rintro e w2 ⟨rfl, hb2⟩
  have hb02 := hb1.trans (hb2.mono hb1.size)
  have hrdA : IntsAt w2 va A := HAA.out.later hb02
  clear h2 hb1 hb2 HAA
  go_wp2_with (at_builtin; (refine wpList_append_rd rfl (.const (.slice none 0 0)) (.tmp 16) 26 rfl w2.heap.size 3 i0 (.int .i64 0) 1 8 Try.underlying26 hi hz0 hz1 hz2 rfl (by decide) _ 0 [] rfl (World.ownsRow_nil _ _ _ _) _ A.length (A.map I) rfl hrdA (i_cells A) (by unfold maxLen; omega) (by omega) (Nat.le_refl _) ?_); intro v3 w3 hown3 hgrow3)
  have hb0w : Below w.heap.size w w3 := hb02.grown hgrow3 hb02.size (fun m hm => by cases hm)
  have hown0 : w3.ownsRow w.heap.size 3 1 v3 A.length (A.map I) := by
    have e : 0 + A.length = A.length := Nat.zero_add _
    rw [e] at hown3
    exact own_base hown3 hb02.size
  have hids0 := HIDS.out.later hb0w
  obtain ⟨_, _, hv, _, hr0⟩ := RdAt.shape hids0
  cases hv
  have HR0 := Lib.hid hr0
  clear hr0 hids0 HIDS hgrow3 hown3 hrdA hb02
  generalize hw0 : w3 = w0 at *
  clear hw0 w3
  have hww0 := hb0w.size
  go_wp2
  go_loopw [5, 6] (fun v i wr => ∃ (k : Nat) (L : List Int), k ≤ ids.length ∧ i = .int .i64 k ∧ Hid (L = fromL A (ids.take k)) ∧ wr.ownsRow w.heap.size 3 1 v L.length (L.map I) ∧ Below w0.heap.size w0 wr) (fun _ i _ => ids.length - (intOf i).toNat)
  case atStart => exact ⟨0, A, Nat.zero_le _, rfl, Lib.hid rfl, hown0, Below.refl _ _⟩
  case round =>
    obtain ⟨i, L, hi1, rfl, HL, hown, hbr⟩ := hrel
    have hLl : L.length ≤ 1000 := by rw [HL.out]; have := fromL_len A (ids.take i); rw [List.length_take] at this; omega
    have HRL : Hid (Rising L) := Lib.hid (by rw [HL.out]; exact rising_fromL HA.out _)
    by_cases hik : i < ids.length
    · obtain ⟨x, hxe⟩ : ∃ x, ids[i] = x := ⟨_, rfl⟩
      have HN : Hid (fromL A (ids.take (i + 1)) = insU x L) := Lib.hid (by rw [List.take_succ_eq_append_getElem hik, fromL_snoc, HL.out, hxe])
      obtain ⟨b0, o0, rfl, hb0, hcell⟩ := HR0.out (by omega)
      have hcx : w0.cell? ⟨b0, o0 + i, none⟩ = some (.int .i64 x) := hcell i _ (by rw [List.getElem?_map, List.getElem?_eq_getElem hik, hxe]; rfl)
      clear hcell hxe HL
      obtain ⟨a1, c1, rfl, hc1, hr1⟩ := RdAt.shape (RdAt.own hown)
      have HR1 := Lib.hid hr1
      have HOWN := Lib.hid hown
      clear hr1 hown
      generalize wr = wo at *
      go_wp2
      go_loopw [7] (fun vk wr => ∃ k : Nat, k ≤ L.length ∧ vk = .int .i64 k ∧ Hid (∀ j (h : j < L.length), k ≤ j → x < L[j]) ∧ Below wo.heap.size wo wr) (fun vk _ => (intOf vk).toNat)
      case atStart => exact ⟨L.length, Nat.le_refl _, rfl, Lib.hid (fun j h hj => by omega), Below.refl _ _⟩
      case round =>
        obtain ⟨k, hk, rfl, HHI, hbr2⟩ := hrel
        have hcr : wr.cell? ⟨b0, o0 + i, none⟩ = some (.int .i64 x) := (((hbr.trans (hbr2.mono hbr.size))).cell (p := ⟨b0, o0 + i, none⟩) hb0).trans hcx
        rcases Nat.eq_zero_or_pos k with rfl | hk0
        · go_wp2
          go_quiet (fail)
          have hbr3 : Below wo.heap.size wo (wr.drewN nq) := bl_drewN hbr2 nq
          have hcr3 : (wr.drewN nq).cell? ⟨b0, o0 + i, none⟩ = some (.int .i64 x) := hcr
          clear hbr2 hcr
          generalize wr.drewN nq = wp at *
          go_wp2
          go_quiet (fail)
          have hbr2 : Below wo.heap.size wo (wp.drewN nq) := bl_drewN hbr3 nq
          have hcr : (wp.drewN nq).cell? ⟨b0, o0 + i, none⟩ = some (.int .i64 x) := hcr3
          clear hbr3 hcr3
          generalize wp.drewN nq = wq at *
          have hrd1 : RdAt wq (.slice a1 0 c1) 0 1 ((L.map I).take 0) := ⟨by simp, by
            cases a1 with
            | none => exact .inl ⟨by
                rcases HOWN.out.2 with ⟨h, _⟩ | ⟨g, cap, cur, h, _⟩
                · simp only [Value.slice.injEq] at h; rw [h.2.2]
                · simp at h, rfl⟩
            | some a => exact .inr ⟨a, c1, rfl, Nat.zero_le _, fun h => absurd h (Nat.lt_irrefl _)⟩⟩
          have hrd2 : RdAt wq (.slice a1 L.length c1) (L.length - 0) 1 ((L.map I).drop 0) := (RdAt.own HOWN.out).later hbr2
          have HB0 : Hid (b0 < wq.heap.size) := Lib.hid (by have := hbr.size; have := hbr2.size; omega)
          have HINS : Hid (insU x L = L.take 0 ++ [x] ++ L.drop 0) := Lib.hid (by rw [insU_zero HRL.out (fun j h => HHI.out j h (Nat.zero_le _))]; simp)
          go_wp2_with fail
          go_region_held_law (fun w' => w'.cell? ⟨b0, o0 + i, none⟩ = some (.int .i64 x)) (first | exact hcr | go_keep | exact (hb3.cell (p := ⟨b0, o0 + i, none⟩) HB0.out).trans hcr | exact (hb2.cell (p := ⟨b0, o0 + i, none⟩) HB0.out).trans hcr | exact (hb1.cell (p := ⟨b0, o0 + i, none⟩) HB0.out).trans hcr)
            (first
              | (refine step_append_rd (by rfl) (.const (.slice none 0 0)) (.tmp 58) _ (by rfl) wq.heap.size 3 i0 (.int .i64 0) 1 8 Try.underlying26 hi hz0 hz1 hz2 rfl (by decide) _ 0 [] (by rfl) (by exact World.ownsRow_nil _ _ _ _) _ 0 ((L.map I).take 0) (by rfl) (by first | exact hrd1.later ((Below.refl wq.heap.size wq).drew) | exact hrd1.later (((Below.refl wq.heap.size wq).drew).alloc (Nat.le_refl _) _)) (fun y hy => i_cells L y (List.mem_of_mem_take hy)) (by unfold maxLen; omega) (by omega) (by simp) ?_; intro v1 w1 hown1 hgrow1 _; have hb1 : Below wq.heap.size wq w1 := by first | exact ((Below.refl wq.heap.size wq).drew).grown hgrow1 (by simp) (fun m hm => by cases hm) | exact ((((Below.refl wq.heap.size wq).drew).alloc (Nat.le_refl _) _)).grown hgrow1 (by simp) (fun m hm => by cases hm))
              | (refine step_append_rd (by rfl) (.tmp 59) (.tmp 64) _ (by rfl) wq.heap.size 3 i0 (.int .i64 0) 1 8 Try.underlying26 hi hz0 hz1 hz2 rfl (by decide) _ _ _ (by rfl) (by first | exact hown1 | exact own_later hown1 ((Below.refl _ _).alloc (Nat.le_refl _) _)) _ 1 [I x] (by rfl) (by first | exact rd_one_new w1 (I x) 3 | exact RdAt.later (w := wq.drew.alloc (.cells #[I x] 3)) (rd_one_new wq.drew (I x) 3) (below_of_grown hgrow1 (fun k hk => by cases hk))) (by simp [Value.oneCell']) (by unfold maxLen; omega) (by omega) (by first | exact hb1.size | exact Nat.le_trans hb1.size (by simp)) ?_; intro v2 w2 hown2 hgrow2 _; have hb2 : Below wq.heap.size wq w2 := by first | exact hb1.grown hgrow2 hb1.size (fun m hm => (hown1.lt m hm).1) | exact (hb1.alloc hb1.size _).grown hgrow2 (Nat.le_trans hb1.size (by simp)) (fun m hm => (hown1.lt m hm).1))
              | (refine step_append_rd (by rfl) (.tmp 65) (.tmp 68) _ (by rfl) wq.heap.size 3 i0 (.int .i64 0) 1 8 Try.underlying26 hi hz0 hz1 hz2 rfl (by decide) _ _ _ (by rfl) (by exact hown2) _ (L.length - 0) ((L.map I).drop 0) (by rfl) (by exact hrd2.later hb2) (fun y hy => i_cells L y (List.mem_of_mem_drop hy)) (by unfold maxLen; omega) (by omega) (by exact hb2.size) ?_; intro v3 w3 hown3 hgrow3 _; have hb3 : Below wq.heap.size wq w3 := hb2.grown hgrow3 hb2.size (fun m hm => (hown2.lt m hm).1)))
          all_goals (
            have R : w3.ownsRow w.heap.size 3 1 v3 (insU x L).length ((insU x L).map I) := own_ins hown3 (by omega) HINS.out (by have := hbr.size; have := hbr2.size; omega)
            have RB : Below w0.heap.size w0 w3 := (hbr.trans (hbr2.mono hbr.size)).trans (hb3.mono (by have := hbr.size; have := hbr2.size; omega))
            clear hown1 hown2 hown3 hgrow1 hgrow2 hgrow3 hb1 hb2 hb3 hrd1 hrd2
            go_wp2
            go_roundw
            case rel => exact ⟨i + 1, insU x L, by omega, by go_num, Lib.hid HN.out.symm, R, RB⟩
            case measure => simp [intOf]; omega)
        · obtain ⟨k, rfl⟩ : ∃ j, k = j + 1 := ⟨k - 1, by omega⟩
          obtain ⟨g, cap, hv, _, hg1⟩ := HOWN.out.form (by omega)
          cases hv
          have hrd : RdAt wo (.slice (some ⟨g, 0, none⟩) L.length c1) L.length 1 (L.map I) := RdAt.own HOWN.out
          obtain ⟨_, _, _, hv, _, _, hcell1⟩ := hrd.some (by omega)
          cases hv
          obtain ⟨y, hye⟩ : ∃ y, L[k] = y := ⟨_, rfl⟩
          have hcy : wr.cell? ⟨g, k, none⟩ = some (.int .i64 y) := (hbr2.cell (p := ⟨g, k, none⟩) hg1).trans (by have := hcell1 k _ (by rw [List.getElem?_map, List.getElem?_eq_getElem (by omega), hye]; rfl); simpa using this)
          have HRD := Lib.hid hrd
          have HYE := Lib.hid hye
          clear hcell1 hrd hye
          by_cases hxy : x < y
          · go_wp2
            go_quiet (fail)
            have hbr3 : Below wo.heap.size wo (wr.drewN nq) := bl_drewN hbr2 nq
            clear hcr hcy
            generalize wr.drewN nq = wp at *
            go_wp2
            go_roundw
            case rel => exact ⟨k, by omega, by go_num, Lib.hid (fun j h hj => by
              rcases Nat.lt_or_ge k j with h1 | h1
              · exact HHI.out j h h1
              · obtain rfl : j = k := by omega
                rw [HYE.out]; exact hxy), hbr3⟩
            case measure => simp [intOf]
          · go_wp2
            go_quiet (fail)
            have hbr3 : Below wo.heap.size wo (wr.drewN nq) := bl_drewN hbr2 nq
            have hcr3 : (wr.drewN nq).cell? ⟨b0, o0 + i, none⟩ = some (.int .i64 x) := hcr
            have hcy3 : (wr.drewN nq).cell? ⟨g, k, none⟩ = some (.int .i64 y) := hcy
            clear hbr2 hcr hcy
            generalize wr.drewN nq = wp at *
            have hkz1 : ¬ ((k : Int) + 1 = 0) := by omega
            have hkz2 : (((k : Int) + 1) == 0) = false := by simp; omega
            by_cases hyx : y = x
            · have HINS : Hid (insU x L = L) := Lib.hid (insU_there (k := k) HRL.out (by omega) (by rw [HYE.out]; exact hyx))
              have hbx : (y != x) = false := by simp [hyx]
              have hnxy := hxy
              clear hyx
              go_wp2
              go_quiet (fail)
              have hbr2 : Below wo.heap.size wo (wp.drewN nq) := bl_drewN hbr3 nq
              clear hcr3 hcy3
              generalize wp.drewN nq = wq at *
              have R : wq.ownsRow w.heap.size 3 1 (.slice (some ⟨g, 0, none⟩) L.length c1) L.length (L.map I) := own_later HOWN.out hbr2
              go_wp2
              go_roundw
              case rel => exact ⟨i + 1, L, by omega, by go_num, Lib.hid (by rw [HN.out, HINS.out]), R, hbr.trans (hbr2.mono hbr.size)⟩
              case measure => simp [intOf]; omega
            · have hbx : (y != x) = true := by simp [hyx]
              have HINS : Hid (insU x L = L.take (k + 1) ++ [x] ++ L.drop (k + 1)) := Lib.hid (insU_mid (k := k) HRL.out (by omega) (fun j h hj => HHI.out j h hj) (by rw [HYE.out]; omega))
              clear hyx
              go_wp2
              go_quiet (fail)
              have hbr2 : Below wo.heap.size wo (wp.drewN nq) := bl_drewN hbr3 nq
              have hcr : (wp.drewN nq).cell? ⟨b0, o0 + i, none⟩ = some (.int .i64 x) := hcr3
              clear hbr3 hcr3 hcy3
              generalize wp.drewN nq = wq at *
              have hrd : RdAt wq (.slice (some ⟨g, 0, none⟩) L.length c1) L.length 1 (L.map I) := HRD.out.later hbr2
              have hrd1 : RdAt wq (.slice (some ⟨g, 0, none⟩) (k + 1) c1) (k + 1) 1 ((L.map I).take (k + 1)) := hrd.take (k + 1) (by omega) (by omega)
              have hrd2 : ∀ (a : Option Addr) (m c : Nat), (a = some ⟨g, k + 1, none⟩ ∨ (c1 = k + 1 ∧ a ≠ none)) → m = L.length - (k + 1) → c = c1 - (k + 1) → RdAt wq (.slice a m c) m 1 ((L.map I).drop (k + 1)) := fun a m c ha hm hc =>
                hrd.drop (k + 1) (by omega) (by omega) a (fun h => by rcases ha with h' | ⟨h', _⟩; exact h'; omega) (by rcases ha with rfl | ⟨_, h'⟩; simp; exact h') m c hm hc
              have HB0 : Hid (b0 < wq.heap.size) := Lib.hid (by have := hbr.size; have := hbr2.size; omega)
              clear hrd
              rcases (show c1 = k + 1 ∨ c1 ≠ k + 1 by omega) with rfl | hck
              · go_wp2_with fail
                go_region_held_law (fun w' => w'.cell? ⟨b0, o0 + i, none⟩ = some (.int .i64 x)) (first | exact hcr | go_keep | exact (hb3.cell (p := ⟨b0, o0 + i, none⟩) HB0.out).trans hcr | exact (hb2.cell (p := ⟨b0, o0 + i, none⟩) HB0.out).trans hcr | exact (hb1.cell (p := ⟨b0, o0 + i, none⟩) HB0.out).trans hcr)
                  (first
                    | (refine step_append_rd (by rfl) (.const (.slice none 0 0)) (.tmp 58) _ (by rfl) wq.heap.size 3 i0 (.int .i64 0) 1 8 Try.underlying26 hi hz0 hz1 hz2 rfl (by decide) _ 0 [] (by rfl) (by exact World.ownsRow_nil _ _ _ _) _ (k + 1) ((L.map I).take (k + 1)) (by rfl) (by first | exact hrd1.later ((Below.refl wq.heap.size wq).drew) | exact hrd1.later (((Below.refl wq.heap.size wq).drew).alloc (Nat.le_refl _) _)) (fun y hy => i_cells L y (List.mem_of_mem_take hy)) (by unfold maxLen; omega) (by omega) (by simp) ?_; intro v1 w1 hown1 hgrow1 _; have hb1 : Below wq.heap.size wq w1 := by first | exact ((Below.refl wq.heap.size wq).drew).grown hgrow1 (by simp) (fun m hm => by cases hm) | exact ((((Below.refl wq.heap.size wq).drew).alloc (Nat.le_refl _) _)).grown hgrow1 (by simp) (fun m hm => by cases hm))
                    | (refine step_append_rd (by rfl) (.tmp 59) (.tmp 64) _ (by rfl) wq.heap.size 3 i0 (.int .i64 0) 1 8 Try.underlying26 hi hz0 hz1 hz2 rfl (by decide) _ _ _ (by rfl) (by first | exact hown1 | exact own_later hown1 ((Below.refl _ _).alloc (Nat.le_refl _) _)) _ 1 [I x] (by rfl) (by first | exact rd_one_new w1 (I x) 3 | exact RdAt.later (w := wq.drew.alloc (.cells #[I x] 3)) (rd_one_new wq.drew (I x) 3) (below_of_grown hgrow1 (fun k hk => by cases hk))) (by simp [Value.oneCell']) (by unfold maxLen; omega) (by omega) (by first | exact hb1.size | exact Nat.le_trans hb1.size (by simp)) ?_; intro v2 w2 hown2 hgrow2 _; have hb2 : Below wq.heap.size wq w2 := by first | exact hb1.grown hgrow2 hb1.size (fun m hm => (hown1.lt m hm).1) | exact (hb1.alloc hb1.size _).grown hgrow2 (Nat.le_trans hb1.size (by simp)) (fun m hm => (hown1.lt m hm).1))
                    | (refine step_append_rd (by rfl) (.tmp 65) (.tmp 68) _ (by rfl) wq.heap.size 3 i0 (.int .i64 0) 1 8 Try.underlying26 hi hz0 hz1 hz2 rfl (by decide) _ _ _ (by rfl) (by exact hown2) _ 0 [] (by rfl) (by exact rd_empty _ _ _ _ (by omega)) (fun y hy => by cases hy) (by unfold maxLen; omega) (by omega) (by exact hb2.size) ?_; intro v3 w3 hown3 hgrow3 _; have hb3 : Below wq.heap.size wq w3 := hb2.grown hgrow3 hb2.size (fun m hm => (hown2.lt m hm).1)))
                all_goals (
                  have R : w3.ownsRow w.heap.size 3 1 v3 (insU x L).length ((insU x L).map I) := own_ins (k := k + 1) (by rw [show L.length - (k + 1) = 0 by omega, List.drop_eq_nil_of_le (by simp; omega)]; exact hown3) (by omega) HINS.out (by have := hbr.size; have := hbr2.size; omega)
                  have RB : Below w0.heap.size w0 w3 := (hbr.trans (hbr2.mono hbr.size)).trans (hb3.mono (by have := hbr.size; have := hbr2.size; omega))
                  clear hown1 hown2 hown3 hgrow1 hgrow2 hgrow3 hb1 hb2 hb3 hrd1 hrd2
                  go_wp2
                  go_roundw
                  case rel => exact ⟨i + 1, insU x L, by omega, by go_num, Lib.hid HN.out.symm, R, RB⟩
                  case measure => simp [intOf]; omega)
              · go_wp2_with fail
                go_region_held_law (fun w' => w'.cell? ⟨b0, o0 + i, none⟩ = some (.int .i64 x)) (first | exact hcr | go_keep | exact (hb3.cell (p := ⟨b0, o0 + i, none⟩) HB0.out).trans hcr | exact (hb2.cell (p := ⟨b0, o0 + i, none⟩) HB0.out).trans hcr | exact (hb1.cell (p := ⟨b0, o0 + i, none⟩) HB0.out).trans hcr)
                  (first
                    | (refine step_append_rd (by rfl) (.const (.slice none 0 0)) (.tmp 58) _ (by rfl) wq.heap.size 3 i0 (.int .i64 0) 1 8 Try.underlying26 hi hz0 hz1 hz2 rfl (by decide) _ 0 [] (by rfl) (by exact World.ownsRow_nil _ _ _ _) _ (k + 1) ((L.map I).take (k + 1)) (by rfl) (by first | exact hrd1.later ((Below.refl wq.heap.size wq).drew) | exact hrd1.later (((Below.refl wq.heap.size wq).drew).alloc (Nat.le_refl _) _)) (fun y hy => i_cells L y (List.mem_of_mem_take hy)) (by unfold maxLen; omega) (by omega) (by simp) ?_; intro v1 w1 hown1 hgrow1 _; have hb1 : Below wq.heap.size wq w1 := by first | exact ((Below.refl wq.heap.size wq).drew).grown hgrow1 (by simp) (fun m hm => by cases hm) | exact ((((Below.refl wq.heap.size wq).drew).alloc (Nat.le_refl _) _)).grown hgrow1 (by simp) (fun m hm => by cases hm))
                    | (refine step_append_rd (by rfl) (.tmp 59) (.tmp 64) _ (by rfl) wq.heap.size 3 i0 (.int .i64 0) 1 8 Try.underlying26 hi hz0 hz1 hz2 rfl (by decide) _ _ _ (by rfl) (by first | exact hown1 | exact own_later hown1 ((Below.refl _ _).alloc (Nat.le_refl _) _)) _ 1 [I x] (by rfl) (by first | exact rd_one_new w1 (I x) 3 | exact RdAt.later (w := wq.drew.alloc (.cells #[I x] 3)) (rd_one_new wq.drew (I x) 3) (below_of_grown hgrow1 (fun k hk => by cases hk))) (by simp [Value.oneCell']) (by unfold maxLen; omega) (by omega) (by first | exact hb1.size | exact Nat.le_trans hb1.size (by simp)) ?_; intro v2 w2 hown2 hgrow2 _; have hb2 : Below wq.heap.size wq w2 := by first | exact hb1.grown hgrow2 hb1.size (fun m hm => (hown1.lt m hm).1) | exact (hb1.alloc hb1.size _).grown hgrow2 (Nat.le_trans hb1.size (by simp)) (fun m hm => (hown1.lt m hm).1))
                    | (refine step_append_rd (by rfl) (.tmp 65) (.tmp 68) _ (by rfl) wq.heap.size 3 i0 (.int .i64 0) 1 8 Try.underlying26 hi hz0 hz1 hz2 rfl (by decide) _ _ _ (by rfl) (by exact hown2) _ (L.length - (k + 1)) ((L.map I).drop (k + 1)) (by rfl) (by exact (hrd2 (some ⟨g, k + 1, none⟩) _ _ (.inl rfl) (by first | rfl | omega) (by first | rfl | omega)).later hb2) (fun y hy => i_cells L y (List.mem_of_mem_drop hy)) (by unfold maxLen; omega) (by omega) (by exact hb2.size) ?_; intro v3 w3 hown3 hgrow3 _; have hb3 : Below wq.heap.size wq w3 := hb2.grown hgrow3 hb2.size (fun m hm => (hown2.lt m hm).1)))
                all_goals (
                  have R : w3.ownsRow w.heap.size 3 1 v3 (insU x L).length ((insU x L).map I) := own_ins hown3 (by omega) HINS.out (by have := hbr.size; have := hbr2.size; omega)
                  have RB : Below w0.heap.size w0 w3 := (hbr.trans (hbr2.mono hbr.size)).trans (hb3.mono (by have := hbr.size; have := hbr2.size; omega))
                  clear hown1 hown2 hown3 hgrow1 hgrow2 hgrow3 hb1 hb2 hb3 hrd1 hrd2
                  go_wp2
                  go_roundw
                  case rel => exact ⟨i + 1, insU x L, by omega, by go_num, Lib.hid HN.out.symm, R, RB⟩
                  case measure => simp [intOf]; omega)
    · obtain rfl : i = ids.length := by omega
      have HS : Hid (fromL A (ids.take ids.length) = fromL A ids) := Lib.hid (by rw [List.take_length])
      rw [HS.out] at HL
      obtain ⟨a5, c5, hu5, hc5, hr5⟩ := RdAt.shape (RdAt.own hown)
      subst hu5
      have hrd5 : RdAt wr (.slice a5 L.length c5) L.length 1 (L.map I) := RdAt.own hown
      have HRD := Lib.hid hrd5
      have HOWN := Lib.hid hown
      clear hown hr5 hrd5
      rcases Nat.lt_or_ge 20 L.length with h20 | h20
      · obtain ⟨g, cap, hv, _, _⟩ := HOWN.out.form (by omega)
        cases hv
        have hm1 : min (L.length : Int) 20 = 20 := by omega
        have hm2 : (20 : Int) ≤ (c5 : Int) := by omega
        go_wp2
        go_ret
        refine ⟨_, rfl, ?_, hb0w.trans (hbr.mono hb0w.size)⟩
        rw [HM.out, ← HL.out]
        have := HRD.out.take 20 (by omega) (by omega)
        unfold IntsAt
        rw [List.length_take, Nat.min_eq_left (by omega), List.map_take]
        exact this
      · have hm1 : min (L.length : Int) 20 = (L.length : Int) := by omega
        have hm2 : (L.length : Int) ≤ (c5 : Int) := by omega
        go_wp2
        go_ret
        refine ⟨_, rfl, ?_, hb0w.trans (hbr.mono hb0w.size)⟩
        rw [HM.out, ← HL.out, List.take_of_length_le h20]
        exact HRD.out
end Go.Proofs.Ytebgcicpokpelaa
