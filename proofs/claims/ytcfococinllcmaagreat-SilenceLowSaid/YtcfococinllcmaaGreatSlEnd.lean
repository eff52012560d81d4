/- silences: New, End; each at a list that isn't there. -/
import Derived.Test.YtcfococinllcmaaGreatSlLay
namespace Go.Proofs.YtcfococinllcmaaGreat
open Go.RowKit Go.Maps

theorem new_any (w : World) : Calls Tryz.prog 21 #[] w fun e w' => ∃ lp m, e = .returned (.pointer (some ⟨lp, 0, none⟩)) ∧ SlAt w' lp m 0 [] 0 ∧ w.heap.size ≤ lp ∧ w.heap.size ≤ m ∧ Below w.heap.size w w' := by
  have hmm := @run_makeMap Tryz.prog
  go_enter Tryz.func21, Tryz.ntmps21
  go_wp2
  go_ret
  have hr := Below.refl ((w.alloc (.map #[] 0)).alloc (.cells #[.map (some w.heap.size), .int .i64 0] 117)).heap.size ((w.alloc (.map #[] 0)).alloc (.cells #[.map (some w.heap.size), .int .i64 0] 117))
  have e0 := box_later hr (i := 0) rfl
  have e1 := box_later hr (i := 1) rfl
  have et := box_there hr
  have hz : (w.alloc (.map #[] 0)).heap.size = w.heap.size + 1 := World.size_alloc _ _
  rw [hz] at e0 e1 et
  have ho := (World.ownsMap_made w Tryz.prog 3 RV).alloc (.cells #[.map (some w.heap.size), .int .i64 0] 117)
  exact ⟨_, w.heap.size, rfl, ⟨e0, e1, ho, List.Pairwise.nil, fun _ h => (by cases h), fun _ h => (by cases h), et, by omega, by omega⟩, by simp, Nat.le_refl _, (alloc_below _ _).trans ((alloc_below _ _).mono (by simp))⟩
theorem num_nil (w : World) : Calls Tryz.prog 30 #[.pointer none] w fun e w' => e = .returned (.slice none 0 0) ∧ Below w.heap.size w w' := by
  go_enter Tryz.func30, Tryz.ntmps30
  go_wp2
  go_ret
  exact ⟨rfl, Below.refl _ _⟩
theorem end_nil (id now : Int) (w : World) : Calls Tryz.prog 32 #[.pointer none, .int .i64 id, .int .i64 now] w fun e w' => e = .returned (.int .i64 1) ∧ Below w.heap.size w w' := by
  go_enter Tryz.func32, Tryz.ntmps32
  go_wp2
  go_ret
  exact ⟨rfl, Below.refl _ _⟩
theorem forget_nil (now : Int) (w : World) : Calls Tryz.prog 41 #[.pointer none, .int .i64 now] w fun e w' => e = .returned (.int .i64 0) ∧ Below w.heap.size w w' := by
  go_enter Tryz.func41, Tryz.ntmps41
  go_wp2
  go_ret
  exact ⟨rfl, alloc_below _ _⟩
theorem lay_nil (s : Sil) (w : World) : Calls Tryz.prog 25 #[.pointer none, s.v] w fun e w' => e = .returned (.tuple #[.int .i64 0, .int .i64 1]) ∧ Below w.heap.size w w' := by
  unfold Sil.v
  go_enter Tryz.func25, Tryz.ntmps25
  go_wp2
  go_ret2
  exact ⟨rfl, alloc_below _ _⟩
/-- what End says, and leaves -/
def endE (S : List Sil) (id now : Int) : Int := match S.find? fun s => s.id == id with
  | none => 5
  | some s => if s.til ≤ now then 5 else 0
def endL (S : List Sil) (id now : Int) : List Sil := match S.find? fun s => s.id == id with
  | none => S
  | some s => if s.til ≤ now then S else if now ≤ s.fr then S.filter (fun s => !(s.id == id)) else setS S { s with til := now }
theorem look_none {w : World} {lp m n : Nat} {S : List Sil} {last : Int} (h : SlAt w lp m n S last) {id : Int} (hw : (Lit.int .i64 id).wf = true) (hn : (S.find? fun s => s.id == id) = none) :
    ∃ z : Sil, (Instr.lookup 115 (.map (some m)) (.int .i64 id) true).run Tryz.prog w = .ok (.tuple #[z.v, .bool false]) w ∧ z = ⟨0, (none, 0, 0), [], 0, 0, 0, 0⟩ := by
  obtain ⟨v, ps, hr, hR⟩ := h.own.look_ok keyedI Tryz.underlying115 (Tryz.zeroValue67 w) (RV_sil ⟨0, (none, 0, 0), [], 0, 0, 0, 0⟩) (keyOf_int_mk Tryz.underlying3 hw)
  have h1 : has (DS S) (kI id) = false := DS_none (fun s hs e => by
    have := List.find?_eq_none.1 hn s hs
    simp [e] at this)
  rw [h1] at hr
  rw [atKey_of_not_has h1] at hR
  obtain ⟨s, rfl, hy⟩ := RV_inv hR
  have := congrArg Prod.fst hy
  dsimp only at this
  rw [← DataW.held.inj this] at hr
  exact ⟨_, hr, rfl⟩
theorem look_some {w : World} {lp m n : Nat} {S : List Sil} {last : Int} (h : SlAt w lp m n S last) {s : Sil} (hs : s ∈ S) :
    (Instr.lookup 115 (.map (some m)) (.int .i64 s.id) true).run Tryz.prog w = .ok (.tuple #[s.v, .bool true]) w ∧
    (Instr.lookup 115 (.map (some m)) (.int .i64 s.id) false).run Tryz.prog w = .ok s.v w := by
  have hk := keyOf_int_mk Tryz.underlying3 (h.wf hs)
  constructor
  · obtain ⟨v, ps, hr, hR⟩ := h.own.look_ok keyedI Tryz.underlying115 (Tryz.zeroValue67 w) (RV_sil ⟨0, (none, 0, 0), [], 0, 0, 0, 0⟩) hk
    rw [DS_at h.up hs] at hR
    have h1 : has (DS S) (kI s.id) = true := by rw [DS_has]; exact List.any_eq_true.2 ⟨s, hs, by simp⟩
    rw [h1] at hr
    obtain ⟨t, rfl, hy⟩ := RV_inv hR
    have := congrArg Prod.fst hy
    dsimp only at this
    rw [← DataW.held.inj this] at hr
    exact hr
  · obtain ⟨v, ps, hr, hR⟩ := h.own.lookup keyedI Tryz.underlying115 (Tryz.zeroValue67 w) (RV_sil ⟨0, (none, 0, 0), [], 0, 0, 0, 0⟩) hk
    rw [DS_at h.up hs] at hR
    obtain ⟨t, rfl, hy⟩ := RV_inv hR
    have := congrArg Prod.fst hy
    dsimp only at this
    rw [← DataW.held.inj this] at hr
    exact hr
theorem end_step {w W5 : World} {lp m n : Nat} {S : List Sil} {last : Int} {s : Sil} (h : SlAt w lp m n S last) (hb : Below w.heap.size w W5) (hs : s ∈ S) (now : Int) (hn : n < 1000000) :
    ∃ W6, (Instr.mapUpdate 115 (.map (some m)) (.int .i64 s.id) ({ s with til := now } : Sil).v).run Tryz.prog W5.drew = .ok () W6 ∧ SlAt W6 lp m (n + 1) (setS S { s with til := now }) last ∧ Kp lp m w W6 := by
  have hne := h.ne
  have h' := h.later hb
  obtain ⟨W6, hr, ho6, hg6⟩ := h'.own.drew.update keyedI Tryz.underlying115 (by unfold maxLen; omega) (keyOf_int_mk Tryz.underlying3 (h.wf hs)) (RV_sil { s with til := now })
  have hg5 : W5.grownBy W6 (some m) := ⟨hg6.os, hg6.tape, hg6.output, hg6.size, fun i hi h => hg6.block i hi h⟩
  have k6 : Kp lp m W5 W6 := Kp.of_map hg5
  have k0 : Kp lp m w W6 := (Kp.of_below hb).trans k6
  have hcan := ho6.canon keyedI
  rw [show (Lit.int .i64 s.id) = kI ({ s with til := now } : Sil).id from rfl] at ho6 hcan
  rw [DS_set (s := { s with til := now }) h.up ⟨s, hs, rfl⟩ hcan] at ho6
  refine ⟨W6, hr, ⟨cell_keepS h'.h0 hg5 (fun e => hne (Option.some.inj e).symm), cell_keepS h'.h1 hg5 (fun e => hne (Option.some.inj e).symm), ho6, upS_ids (setS_ids S _) h.up, fun t ht => ?_, fun t ht => ?_, there_same h'.th (hg5.block lp (cell_lt h'.h0) (fun e => hne (Option.some.inj e))), h.few, by omega⟩, k0⟩
  · rcases mem_setS ht with rfl | h1
    · exact h.ids s hs
    · exact h.ids t h1
  · rcases mem_setS ht with rfl | h1
    · obtain ⟨a1, a2, a3, a4⟩ := h.ms s hs
      exact ⟨k0.rd a1 a4, a2, a3, a4⟩
    · obtain ⟨a1, a2, a3, a4⟩ := h.ms t h1
      exact ⟨k0.rd a1 a4, a2, a3, a4⟩
theorem drop_step {w W5 : World} {lp m n : Nat} {S : List Sil} {last : Int} (h : SlAt w lp m n S last) (hb : Below w.heap.size w W5) {id : Int} (hw : (Lit.int .i64 id).wf = true) (ty : TypeId) :
    ∃ W6, (Builtin.delete_ #[115, 3] ty #[.map (some m), .int .i64 id]).run Tryz.prog W5 = .ok (.tuple #[]) W6 ∧ SlAt W6 lp m n (S.filter fun s => !(s.id == id)) last ∧ Kp lp m w W6 := by
  have hne := h.ne
  have h' := h.later hb
  obtain ⟨W6, hr, ho6, ht6⟩ := h'.own.drop keyedI Tryz.underlying115 (keyOf_int_mk Tryz.underlying3 hw) ty
  have hg5 := ht6.grown
  have k0 : Kp lp m w W6 := (Kp.of_below hb).trans (Kp.of_map hg5)
  rw [DS_del] at ho6
  exact ⟨W6, hr, h.sub _ k0 (cell_keepS h'.h0 hg5 (fun e => hne (Option.some.inj e).symm)) (cell_keepS h'.h1 hg5 (fun e => hne (Option.some.inj e).symm)) (there_same h'.th (hg5.block lp (cell_lt h'.h0) (fun e => hne (Option.some.inj e)))) ho6, k0⟩
theorem endE_none {S : List Sil} {id now : Int} (h : (S.find? fun s => s.id == id) = none) : endE S id now = 5 ∧ endL S id now = S := by
  unfold endE endL
  rw [h]; exact ⟨rfl, rfl⟩
theorem endE_old {S : List Sil} {id now : Int} {s : Sil} (h : (S.find? fun s => s.id == id) = some s) (h1 : s.til ≤ now) : endE S id now = 5 ∧ endL S id now = S := by
  unfold endE endL
  rw [h]; exact ⟨if_pos h1, if_pos h1⟩
theorem endE_drop {S : List Sil} {id now : Int} {s : Sil} (h : (S.find? fun s => s.id == id) = some s) (h1 : ¬ s.til ≤ now) (h2 : now ≤ s.fr) : endE S id now = 0 ∧ endL S id now = S.filter fun s => !(s.id == id) := by
  unfold endE endL
  rw [h]; exact ⟨if_neg h1, (if_neg h1).trans (if_pos h2)⟩
theorem endE_set {S : List Sil} {id now : Int} {s : Sil} (h : (S.find? fun s => s.id == id) = some s) (h1 : ¬ s.til ≤ now) (h2 : ¬ now ≤ s.fr) : endE S id now = 0 ∧ endL S id now = setS S { s with til := now } := by
  unfold endE endL
  rw [h]; exact ⟨if_neg h1, (if_neg h1).trans (if_neg h2)⟩
set_option maxHeartbeats 3200000 in
set_option maxRecDepth 100000 in
theorem end_any (lp m n : Nat) (S : List Sil) (last id now : Int) (w : World) (h : SlAt w lp m n S last) (hw : (Lit.int .i64 id).wf = true) (hn : n < 1000000) :
    Calls Tryz.prog 32 #[.pointer (some ⟨lp, 0, none⟩), .int .i64 id, .int .i64 now] w fun e w' =>
      e = .returned (.int .i64 (endE S id now)) ∧ ∃ n', SlAt w' lp m n' (endL S id now) last ∧ n' ≤ n + 1 ∧ Kp lp m w w' := by
  have l0 := h.h0
  cases hf : (S.find? fun s => s.id == id) with
  | none =>
    obtain ⟨z, hr, rfl⟩ := look_none h hw hf
    unfold Sil.v at hr
    dsimp only at hr
    have H := Lib.hid h
    have HE := Lib.hid (endE_none (now := now) hf)
    clear h hf hw
    go_enter Tryz.func32, Tryz.ntmps32
    go_wp2
    go_ret
    exact ⟨by rw [HE.out.1]; rfl, n, by rw [HE.out.2]; exact H.out.later (alloc_below _ _), by omega, Kp.of_below (alloc_below _ _)⟩
  | some s =>
    have hs := List.mem_of_find?_eq_some hf
    have hid : s.id = id := by simpa using List.find?_some hf
    have hr := (look_some h hs).1
    rw [hid] at hr
    unfold Sil.v at hr
    have hb := alloc_below w (.cells #[.slice s.mv.1 s.mv.2.1 s.mv.2.2, .int .i64 s.fr, .int .i64 s.til, .int .i64 s.lv, .int .u32 s.c] 67)
    have x := alc5 w (.slice s.mv.1 s.mv.2.1 s.mv.2.2) (.int .i64 s.fr) (.int .i64 s.til) (.int .i64 s.lv) (.int .u32 s.c) 67
    have ht := box_there (Below.refl _ (w.alloc (.cells #[.slice s.mv.1 s.mv.2.1 s.mv.2.2, .int .i64 s.fr, .int .i64 s.til, .int .i64 s.lv, .int .u32 s.c] 67)))
    have hz := World.size_alloc w (.cells #[.slice s.mv.1 s.mv.2.1 s.mv.2.2, .int .i64 s.fr, .int .i64 s.til, .int .i64 s.lv, .int .u32 s.c] 67)
    obtain ⟨W1, hW1⟩ : ∃ z, w.alloc (.cells #[.slice s.mv.1 s.mv.2.1 s.mv.2.2, .int .i64 s.fr, .int .i64 s.til, .int .i64 s.lv, .int .u32 s.c] 67) = z := ⟨_, rfl⟩
    rw [hW1] at hb x ht hz
    change W1.there w.heap.size 0 5 at ht
    have l1 := (h.later hb).h0
    have H := Lib.hid h
    have HB := Lib.hid hb
    have HX := Lib.hid x
    have HT := Lib.hid ht
    have HS := Lib.hid hs
    have HF := Lib.hid hf
    have HI := Lib.hid hid
    have HWF := Lib.hid hw
    clear h hb x ht hs hf hid hw
    go_enter Tryz.func32, Tryz.ntmps32
    go_upto_region 6 with fail
    clear hW1 hr l0
    obtain ⟨x0, x1, x2, x3, x4⟩ := HX.out
    by_cases h1 : s.til ≤ now
    · have G1 := Lib.hid (endE_old HF.out h1)
      go_wp2
      go_ret
      exact ⟨by rw [G1.out.1]; rfl, n, by rw [G1.out.2]; exact H.out.later HB.out, by omega, Kp.of_below HB.out⟩
    by_cases h2 : now ≤ s.fr
    · have G1 := Lib.hid (endE_drop HF.out h1 h2)
      obtain ⟨W6, hr, hS6, hK6⟩ := drop_step H.out HB.out HWF.out 0
      have HS6 := Lib.hid hS6
      have HK6 := Lib.hid hK6
      clear hS6 hK6
      go_wp2
      go_ret
      exact ⟨by rw [G1.out.1]; rfl, n, by rw [G1.out.2]; exact HS6.out, by omega, HK6.out⟩
    · have G1 := Lib.hid (endE_set HF.out h1 h2)
      have f2 := there_free HT.out 2 (by omega)
      have hb5 := below_put HB.out (Nat.le_refl w.heap.size) (j := 2) (x := .int .i64 now)
      have c5 : C5 w.heap.size (.slice s.mv.1 s.mv.2.1 s.mv.2.2) (.int .i64 s.fr) (.int .i64 now) (.int .i64 s.lv) (.int .u32 s.c) (W1.setCell ⟨w.heap.size, 2, none⟩ (.int .i64 now)) :=
        ⟨by rw [set_far (by omega)]; exact x0, by rw [set_far (by omega)]; exact x1, by rw [World.cell?_setCell_same' _ _ _ (by rw [x2]; rfl)], by rw [set_far (by omega)]; exact x3, by rw [set_far (by omega)]; exact x4⟩
      obtain ⟨W5, hW5⟩ : ∃ z, W1.setCell ⟨w.heap.size, 2, none⟩ (.int .i64 now) = z := ⟨_, rfl⟩
      rw [hW5] at hb5 c5
      obtain ⟨W6, hr, hS6, hK6⟩ := end_step H.out hb5 HS.out now hn
      have HS6 := Lib.hid hS6
      have HK6 := Lib.hid hK6
      have HC5 := Lib.hid c5
      have HL5 := Lib.hid (H.out.later hb5).h0
      rw [HI.out] at hr
      unfold Sil.v at hr
      dsimp only at hr
      have HRU := Lib.hid hr
      clear hS6 hK6 c5 hb5 hr
      go_upto_region 5 with fail
      clear hW5 x0 x1 x2 x3 x4 f2 l1
      obtain ⟨x0, x1, x2, x3, x4⟩ := HC5.out
      have l0 := HL5.out
      have hr := HRU.out
      go_region
      go_wp2
      go_ret
      exact ⟨by rw [G1.out.1]; rfl, n + 1, by rw [G1.out.2]; exact HS6.out, by omega, HK6.out⟩
end Go.Proofs.YtcfococinllcmaaGreat
