/- SilenceTimes: the card: whatever the arguments, the law returns true and its arguments read as they did. No condition. -/
import Derived.Test.YtcfococinllcmaaGreatSlLay
import Derived.Test.YtcfococinllcmaaGreatBox3
import Derived.Test.YtcfococinllcmaaGreatAlArgs
import Derived.Lib.Walk
import Derived.Test.YtcfococinllcmaaGreatInts
import Derived.Test.YtcfococinllcmaaGreatBox
import Derived.Test.YtcfococinllcmaaGreatShelf
import Derived.Laws.AppendOwn
import Derived.Deep.LoopGhost
import Derived.Test.YtcfococinllcmaaGreatLabelB
import Derived.Test.YtcfococinllcmaaGreatAppRd
import Derived.Test.YtcfococinllcmaaGreatHeld
import Derived.Maps.AppendAt
import Derived.Deep.DeepCutAuto
import Derived.Test.YtcfococinllcmaaGreatName
import Derived.Test.YtcfococinllcmaaGreatAlCut
import Derived.Test.YtcfococinllcmaaGreatAls
import Derived.Test.YtcfococinllcmaaGreatHeldT

/- silences: New, End; each at a list that isn't there. -/
namespace Go.Proofs.YtcfococinllcmaaGreat
open Go.RowKit Go.Maps

theorem new_any (w : World) : Calls Tryz.prog 21 #[] w fun e w' => ∃ lp m, e = .returned (.pointer (some ⟨lp, 0, none⟩)) ∧ SlAt w' lp m 0 [] 0 ∧ w.heap.size ≤ lp ∧ w.heap.size ≤ m ∧ Below w.heap.size w w' := by
  have hmm := @run_makeMap Tryz.prog
  go_enter Tryz.func21, Tryz.ntmps21
  go_wp2
  go_ret
  have hr := Below.refl ((w.alloc (.map #[] 0)).alloc (.cells #[.map (some w.heap.size), .int .i64 0] 117)).heap.size ((w.alloc (.map #[] 0)).alloc (.cells #[.map (some w.heap.size), .int .i64 0] 117))
  have e0 := box_later hr (i := 0) rfl
  have e1 := box_later hr (i := 1) rfl
  have et := box_there hr
  have hz : (w.alloc (.map #[] 0)).heap.size = w.heap.size + 1 := World.size_alloc _ _
  rw [hz] at e0 e1 et
  have ho := (World.ownsMap_made w Tryz.prog 3 RV).alloc (.cells #[.map (some w.heap.size), .int .i64 0] 117)
  exact ⟨_, w.heap.size, rfl, ⟨e0, e1, ho, List.Pairwise.nil, fun _ h => (by cases h), fun _ h => (by cases h), et, by omega, by omega⟩, by simp, Nat.le_refl _, (alloc_below _ _).trans ((alloc_below _ _).mono (by simp))⟩
theorem num_nil (w : World) : Calls Tryz.prog 30 #[.pointer none] w fun e w' => e = .returned (.slice none 0 0) ∧ Below w.heap.size w w' := by
  go_enter Tryz.func30, Tryz.ntmps30
  go_wp2
  go_ret
  exact ⟨rfl, Below.refl _ _⟩
theorem end_nil (id now : Int) (w : World) : Calls Tryz.prog 32 #[.pointer none, .int .i64 id, .int .i64 now] w fun e w' => e = .returned (.int .i64 1) ∧ Below w.heap.size w w' := by
  go_enter Tryz.func32, Tryz.ntmps32
  go_wp2
  go_ret
  exact ⟨rfl, Below.refl _ _⟩
theorem forget_nil (now : Int) (w : World) : Calls Tryz.prog 41 #[.pointer none, .int .i64 now] w fun e w' => e = .returned (.int .i64 0) ∧ Below w.heap.size w w' := by
  go_enter Tryz.func41, Tryz.ntmps41
  go_wp2
  go_ret
  exact ⟨rfl, alloc_below _ _⟩
theorem lay_nil (s : Sil) (w : World) : Calls Tryz.prog 25 #[.pointer none, s.v] w fun e w' => e = .returned (.tuple #[.int .i64 0, .int .i64 1]) ∧ Below w.heap.size w w' := by
  unfold Sil.v
  go_enter Tryz.func25, Tryz.ntmps25
  go_wp2
  go_ret2
  exact ⟨rfl, alloc_below _ _⟩
/-- what End says, and leaves -/
def endE (S : List Sil) (id now : Int) : Int := match S.find? fun s => s.id == id with
  | none => 5
  | some s => if s.til ≤ now then 5 else 0
def endL (S : List Sil) (id now : Int) : List Sil := match S.find? fun s => s.id == id with
  | none => S
  | some s => if s.til ≤ now then S else if now ≤ s.fr then S.filter (fun s => !(s.id == id)) else setS S { s with til := now }
theorem look_none {w : World} {lp m n : Nat} {S : List Sil} {last : Int} (h : SlAt w lp m n S last) {id : Int} (hw : (Lit.int .i64 id).wf = true) (hn : (S.find? fun s => s.id == id) = none) :
    ∃ z : Sil, (Instr.lookup 115 (.map (some m)) (.int .i64 id) true).run Tryz.prog w = .ok (.tuple #[z.v, .bool false]) w ∧ z = ⟨0, (none, 0, 0), [], 0, 0, 0, 0⟩ := by
  obtain ⟨v, ps, hr, hR⟩ := h.own.look_ok keyedI Tryz.underlying115 (Tryz.zeroValue67 w) (RV_sil ⟨0, (none, 0, 0), [], 0, 0, 0, 0⟩) (keyOf_int_mk Tryz.underlying3 hw)
  have h1 : has (DS S) (kI id) = false := DS_none (fun s hs e => by
    have := List.find?_eq_none.1 hn s hs
    simp [e] at this)
  rw [h1] at hr
  rw [atKey_of_not_has h1] at hR
  obtain ⟨s, rfl, hy⟩ := RV_inv hR
  have := congrArg Prod.fst hy
  dsimp only at this
  rw [← DataW.held.inj this] at hr
  exact ⟨_, hr, rfl⟩
theorem look_some {w : World} {lp m n : Nat} {S : List Sil} {last : Int} (h : SlAt w lp m n S last) {s : Sil} (hs : s ∈ S) :
    (Instr.lookup 115 (.map (some m)) (.int .i64 s.id) true).run Tryz.prog w = .ok (.tuple #[s.v, .bool true]) w ∧
    (Instr.lookup 115 (.map (some m)) (.int .i64 s.id) false).run Tryz.prog w = .ok s.v w := by
  have hk := keyOf_int_mk Tryz.underlying3 (h.wf hs)
  constructor
  · obtain ⟨v, ps, hr, hR⟩ := h.own.look_ok keyedI Tryz.underlying115 (Tryz.zeroValue67 w) (RV_sil ⟨0, (none, 0, 0), [], 0, 0, 0, 0⟩) hk
    rw [DS_at h.up hs] at hR
    have h1 : has (DS S) (kI s.id) = true := by rw [DS_has]; exact List.any_eq_true.2 ⟨s, hs, by simp⟩
    rw [h1] at hr
    obtain ⟨t, rfl, hy⟩ := RV_inv hR
    have := congrArg Prod.fst hy
    dsimp only at this
    rw [← DataW.held.inj this] at hr
    exact hr
  · obtain ⟨v, ps, hr, hR⟩ := h.own.lookup keyedI Tryz.underlying115 (Tryz.zeroValue67 w) (RV_sil ⟨0, (none, 0, 0), [], 0, 0, 0, 0⟩) hk
    rw [DS_at h.up hs] at hR
    obtain ⟨t, rfl, hy⟩ := RV_inv hR
    have := congrArg Prod.fst hy
    dsimp only at this
    rw [← DataW.held.inj this] at hr
    exact hr
theorem end_step {w W5 : World} {lp m n : Nat} {S : List Sil} {last : Int} {s : Sil} (h : SlAt w lp m n S last) (hb : Below w.heap.size w W5) (hs : s ∈ S) (now : Int) (hn : n < 1000000) :
    ∃ W6, (Instr.mapUpdate 115 (.map (some m)) (.int .i64 s.id) ({ s with til := now } : Sil).v).run Tryz.prog W5.drew = .ok () W6 ∧ SlAt W6 lp m (n + 1) (setS S { s with til := now }) last ∧ Kp lp m w W6 := by
  have hne := h.ne
  have h' := h.later hb
  obtain ⟨W6, hr, ho6, hg6⟩ := h'.own.drew.update keyedI Tryz.underlying115 (by unfold maxLen; omega) (keyOf_int_mk Tryz.underlying3 (h.wf hs)) (RV_sil { s with til := now })
  have hg5 : W5.grownBy W6 (some m) := ⟨hg6.os, hg6.tape, hg6.output, hg6.size, fun i hi h => hg6.block i hi h⟩
  have k6 : Kp lp m W5 W6 := Kp.of_map hg5
  have k0 : Kp lp m w W6 := (Kp.of_below hb).trans k6
  have hcan := ho6.canon keyedI
  rw [show (Lit.int .i64 s.id) = kI ({ s with til := now } : Sil).id from rfl] at ho6 hcan
  rw [DS_set (s := { s with til := now }) h.up ⟨s, hs, rfl⟩ hcan] at ho6
  refine ⟨W6, hr, ⟨cell_keepS h'.h0 hg5 (fun e => hne (Option.some.inj e).symm), cell_keepS h'.h1 hg5 (fun e => hne (Option.some.inj e).symm), ho6, upS_ids (setS_ids S _) h.up, fun t ht => ?_, fun t ht => ?_, there_same h'.th (hg5.block lp (cell_lt h'.h0) (fun e => hne (Option.some.inj e))), h.few, by omega⟩, k0⟩
  · rcases mem_setS ht with rfl | h1
    · exact h.ids s hs
    · exact h.ids t h1
  · rcases mem_setS ht with rfl | h1
    · obtain ⟨a1, a2, a3, a4⟩ := h.ms s hs
      exact ⟨k0.rd a1 a4, a2, a3, a4⟩
    · obtain ⟨a1, a2, a3, a4⟩ := h.ms t h1
      exact ⟨k0.rd a1 a4, a2, a3, a4⟩
theorem drop_step {w W5 : World} {lp m n : Nat} {S : List Sil} {last : Int} (h : SlAt w lp m n S last) (hb : Below w.heap.size w W5) {id : Int} (hw : (Lit.int .i64 id).wf = true) (ty : TypeId) :
    ∃ W6, (Builtin.delete_ #[115, 3] ty #[.map (some m), .int .i64 id]).run Tryz.prog W5 = .ok (.tuple #[]) W6 ∧ SlAt W6 lp m n (S.filter fun s => !(s.id == id)) last ∧ Kp lp m w W6 := by
  have hne := h.ne
  have h' := h.later hb
  obtain ⟨W6, hr, ho6, ht6⟩ := h'.own.drop keyedI Tryz.underlying115 (keyOf_int_mk Tryz.underlying3 hw) ty
  have hg5 := ht6.grown
  have k0 : Kp lp m w W6 := (Kp.of_below hb).trans (Kp.of_map hg5)
  rw [DS_del] at ho6
  exact ⟨W6, hr, h.sub _ k0 (cell_keepS h'.h0 hg5 (fun e => hne (Option.some.inj e).symm)) (cell_keepS h'.h1 hg5 (fun e => hne (Option.some.inj e).symm)) (there_same h'.th (hg5.block lp (cell_lt h'.h0) (fun e => hne (Option.some.inj e)))) ho6, k0⟩
theorem endE_none {S : List Sil} {id now : Int} (h : (S.find? fun s => s.id == id) = none) : endE S id now = 5 ∧ endL S id now = S := by
  unfold endE endL
  rw [h]; exact ⟨rfl, rfl⟩
theorem endE_old {S : List Sil} {id now : Int} {s : Sil} (h : (S.find? fun s => s.id == id) = some s) (h1 : s.til ≤ now) : endE S id now = 5 ∧ endL S id now = S := by
  unfold endE endL
  rw [h]; exact ⟨if_pos h1, if_pos h1⟩
theorem endE_drop {S : List Sil} {id now : Int} {s : Sil} (h : (S.find? fun s => s.id == id) = some s) (h1 : ¬ s.til ≤ now) (h2 : now ≤ s.fr) : endE S id now = 0 ∧ endL S id now = S.filter fun s => !(s.id == id) := by
  unfold endE endL
  rw [h]; exact ⟨if_neg h1, (if_neg h1).trans (if_pos h2)⟩
theorem endE_set {S : List Sil} {id now : Int} {s : Sil} (h : (S.find? fun s => s.id == id) = some s) (h1 : ¬ s.til ≤ now) (h2 : ¬ now ≤ s.fr) : endE S id now = 0 ∧ endL S id now = setS S { s with til := now } := by
  unfold endE endL
  rw [h]; exact ⟨if_neg h1, (if_neg h1).trans (if_neg h2)⟩
set_option maxHeartbeats 3200000 in
set_option maxRecDepth 100000 in
theorem end_any (lp m n : Nat) (S : List Sil) (last id now : Int) (w : World) (h : SlAt w lp m n S last) (hw : (Lit.int .i64 id).wf = true) (hn : n < 1000000) :
    Calls Tryz.prog 32 #[.pointer (some ⟨lp, 0, none⟩), .int .i64 id, .int .i64 now] w fun e w' =>
      e = .returned (.int .i64 (endE S id now)) ∧ ∃ n', SlAt w' lp m n' (endL S id now) last ∧ n' ≤ n + 1 ∧ Kp lp m w w' := by
  have l0 := h.h0
  cases hf : (S.find? fun s => s.id == id) with
  | none =>
    obtain ⟨z, hr, rfl⟩ := look_none h hw hf
    unfold Sil.v at hr
    dsimp only at hr
    have H := Lib.hid h
    have HE := Lib.hid (endE_none (now := now) hf)
    clear h hf hw
    go_enter Tryz.func32, Tryz.ntmps32
    go_wp2
    go_ret
    exact ⟨by rw [HE.out.1]; rfl, n, by rw [HE.out.2]; exact H.out.later (alloc_below _ _), by omega, Kp.of_below (alloc_below _ _)⟩
  | some s =>
    have hs := List.mem_of_find?_eq_some hf
    have hid : s.id = id := by simpa using List.find?_some hf
    have hr := (look_some h hs).1
    rw [hid] at hr
    unfold Sil.v at hr
    have hb := alloc_below w (.cells #[.slice s.mv.1 s.mv.2.1 s.mv.2.2, .int .i64 s.fr, .int .i64 s.til, .int .i64 s.lv, .int .u32 s.c] 67)
    have x := alc5 w (.slice s.mv.1 s.mv.2.1 s.mv.2.2) (.int .i64 s.fr) (.int .i64 s.til) (.int .i64 s.lv) (.int .u32 s.c) 67
    have ht := box_there (Below.refl _ (w.alloc (.cells #[.slice s.mv.1 s.mv.2.1 s.mv.2.2, .int .i64 s.fr, .int .i64 s.til, .int .i64 s.lv, .int .u32 s.c] 67)))
    have hz := World.size_alloc w (.cells #[.slice s.mv.1 s.mv.2.1 s.mv.2.2, .int .i64 s.fr, .int .i64 s.til, .int .i64 s.lv, .int .u32 s.c] 67)
    obtain ⟨W1, hW1⟩ : ∃ z, w.alloc (.cells #[.slice s.mv.1 s.mv.2.1 s.mv.2.2, .int .i64 s.fr, .int .i64 s.til, .int .i64 s.lv, .int .u32 s.c] 67) = z := ⟨_, rfl⟩
    rw [hW1] at hb x ht hz
    change W1.there w.heap.size 0 5 at ht
    have l1 := (h.later hb).h0
    have H := Lib.hid h
    have HB := Lib.hid hb
    have HX := Lib.hid x
    have HT := Lib.hid ht
    have HS := Lib.hid hs
    have HF := Lib.hid hf
    have HI := Lib.hid hid
    have HWF := Lib.hid hw
    clear h hb x ht hs hf hid hw
    go_enter Tryz.func32, Tryz.ntmps32
    go_upto_region 6 with fail
    clear hW1 hr l0
    obtain ⟨x0, x1, x2, x3, x4⟩ := HX.out
    by_cases h1 : s.til ≤ now
    · have G1 := Lib.hid (endE_old HF.out h1)
      go_wp2
      go_ret
      exact ⟨by rw [G1.out.1]; rfl, n, by rw [G1.out.2]; exact H.out.later HB.out, by omega, Kp.of_below HB.out⟩
    by_cases h2 : now ≤ s.fr
    · have G1 := Lib.hid (endE_drop HF.out h1 h2)
      obtain ⟨W6, hr, hS6, hK6⟩ := drop_step H.out HB.out HWF.out 0
      have HS6 := Lib.hid hS6
      have HK6 := Lib.hid hK6
      clear hS6 hK6
      go_wp2
      go_ret
      exact ⟨by rw [G1.out.1]; rfl, n, by rw [G1.out.2]; exact HS6.out, by omega, HK6.out⟩
    · have G1 := Lib.hid (endE_set HF.out h1 h2)
      have f2 := there_free HT.out 2 (by omega)
      have hb5 := below_put HB.out (Nat.le_refl w.heap.size) (j := 2) (x := .int .i64 now)
      have c5 : C5 w.heap.size (.slice s.mv.1 s.mv.2.1 s.mv.2.2) (.int .i64 s.fr) (.int .i64 now) (.int .i64 s.lv) (.int .u32 s.c) (W1.setCell ⟨w.heap.size, 2, none⟩ (.int .i64 now)) :=
        ⟨by rw [set_far (by omega)]; exact x0, by rw [set_far (by omega)]; exact x1, by rw [World.cell?_setCell_same' _ _ _ (by rw [x2]; rfl)], by rw [set_far (by omega)]; exact x3, by rw [set_far (by omega)]; exact x4⟩
      obtain ⟨W5, hW5⟩ : ∃ z, W1.setCell ⟨w.heap.size, 2, none⟩ (.int .i64 now) = z := ⟨_, rfl⟩
      rw [hW5] at hb5 c5
      obtain ⟨W6, hr, hS6, hK6⟩ := end_step H.out hb5 HS.out now hn
      have HS6 := Lib.hid hS6
      have HK6 := Lib.hid hK6
      have HC5 := Lib.hid c5
      have HL5 := Lib.hid (H.out.later hb5).h0
      rw [HI.out] at hr
      unfold Sil.v at hr
      dsimp only at hr
      have HRU := Lib.hid hr
      clear hS6 hK6 c5 hb5 hr
      go_upto_region 5 with fail
      clear hW5 x0 x1 x2 x3 x4 f2 l1
      obtain ⟨x0, x1, x2, x3, x4⟩ := HC5.out
      have l0 := HL5.out
      have hr := HRU.out
      go_region
      go_wp2
      go_ret
      exact ⟨by rw [G1.out.1]; rfl, n + 1, by rw [G1.out.2]; exact HS6.out, by omega, HK6.out⟩
end Go.Proofs.YtcfococinllcmaaGreat

/- silences: Get. -/
namespace Go.Proofs.YtcfococinllcmaaGreat
open Go.RowKit Go.Maps

/-- what Get hands back -/
abbrev zeroS : Sil := ⟨0, (none, 0, 0), [], 0, 0, 0, 0⟩
def getS (S : List Sil) (id : Int) : Sil := (S.find? fun s => s.id == id).getD zeroS
set_option maxHeartbeats 3200000 in
set_option maxRecDepth 100000 in
theorem get_any (lp m n : Nat) (S : List Sil) (last id : Int) (w : World) (h : SlAt w lp m n S last) (hw : (Lit.int .i64 id).wf = true) :
    Calls Tryz.prog 38 #[.pointer (some ⟨lp, 0, none⟩), .int .i64 id] w fun e w' =>
      ∃ mv : Option Addr × Nat × Nat, e = .returned (.tuple #[({ getS S id with mv := mv } : Sil).v, .bool (S.find? fun s => s.id == id).isSome]) ∧ MtsAt w' (SV mv) (getS S id).ms ∧ Below w.heap.size w w' := by
  obtain ⟨W1, h1⟩ : ∃ z, w.alloc (.cells #[.slice none 0 0, .int .i64 0, .int .i64 0, .int .i64 0, .int .u32 0] 67) = z := ⟨_, rfl⟩
  have s1 : W1.heap.size = w.heap.size + 1 := by rw [← h1, World.size_alloc]
  have b1 : Below w.heap.size w W1 := by rw [← h1]; exact alloc_below _ _
  have t1 : W1.there w.heap.size 0 5 := by
    have := box_there (Below.refl _ (w.alloc (.cells #[.slice none 0 0, .int .i64 0, .int .i64 0, .int .i64 0, .int .u32 0] 67)))
    rw [h1] at this; exact this
  have z1 : C5 w.heap.size (.slice none 0 0) (.int .i64 0) (.int .i64 0) (.int .i64 0) (.int .u32 0) W1 := by
    have := alc5 w (.slice none 0 0) (.int .i64 0) (.int .i64 0) (.int .i64 0) (.int .u32 0) 67
    rw [h1] at this; exact this
  have h' := h.later b1
  have l0 := h'.h0
  obtain ⟨z, hz, hzs, hm⟩ : ∃ z : Sil, (Instr.lookup 115 (.map (some m)) (.int .i64 id) true).run Tryz.prog W1 = .ok (.tuple #[z.v, .bool (S.find? fun s => s.id == id).isSome]) W1 ∧ z = getS S id ∧ (MtsAt W1 (SV z.mv) z.ms ∧ z.ms.length ≤ 12) := by
    cases hf : (S.find? fun s => s.id == id) with
    | none =>
      obtain ⟨z, hr, rfl⟩ := look_none h' hw hf
      exact ⟨_, hr, by unfold getS; rw [hf]; rfl, RdAt.nil _ _, by decide⟩
    | some s =>
      have hs := List.mem_of_find?_eq_some hf
      have hid : s.id = id := by simpa using List.find?_some hf
      have hr := (look_some h' hs).1
      rw [hid] at hr
      exact ⟨s, hr, by unfold getS; rw [hf]; rfl, (h'.ms s hs).1, (h'.ms s hs).2.2.1⟩
  rw [← hzs]
  generalize (S.find? fun s => s.id == id).isSome = OK at *
  clear hzs h h'
  obtain ⟨hm1, hm2⟩ := hm
  obtain ⟨za, zc, e, _, _⟩ := RdAt.shape hm1
  unfold Sil.v at hz ⊢
  obtain ⟨zid, zmv, ms, fr, til, lv, c⟩ := z
  dsimp only [SV] at *
  rw [e] at hz hm1
  clear e
  obtain ⟨W2, h2⟩ : ∃ z, W1.alloc (.cells #[.slice za ms.length zc, .int .i64 fr, .int .i64 til, .int .i64 lv, .int .u32 c] 67) = z := ⟨_, rfl⟩
  have s2 : W2.heap.size = w.heap.size + 1 + 1 := by rw [← h2, World.size_alloc, s1]
  have b2 : Below W1.heap.size W1 W2 := by rw [← h2]; exact alloc_below _ _
  have x2 : C5 (w.heap.size + 1) (.slice za ms.length zc) (.int .i64 fr) (.int .i64 til) (.int .i64 lv) (.int .u32 c) W2 := by
    have := alc5 W1 (.slice za ms.length zc) (.int .i64 fr) (.int .i64 til) (.int .i64 lv) (.int .u32 c) 67
    rw [h2, s1] at this; exact this
  have t2 : W2.there (w.heap.size + 1) 0 5 := by
    have := box_there (Below.refl _ (W1.alloc (.cells #[.slice za ms.length zc, .int .i64 fr, .int .i64 til, .int .i64 lv, .int .u32 c] 67)))
    rw [h2, s1] at this; exact this
  have t12 := there_later t1 b2 (by omega)
  have hB2 : Below w.heap.size w W2 := b1.trans (b2.mono (by omega))
  have kc := cloneM_any ms W2 (.slice za ms.length zc) (RdAt.later hm1 b2) (by omega)
  have HB2 := Lib.hid hB2
  have HX2 := Lib.hid x2
  have HZ2 := Lib.hid (z1.later b2)
  clear z1
  have HT1 := Lib.hid t12
  have HT2 := Lib.hid t2
  have HBB := Lib.hid b2
  clear b1 b2 t1 t2 t12 hB2 x2 hm1 hw
  go_enter Tryz.func38, Tryz.ntmps38
  go_upto_region 3 with fail
  try rw [h1]
  clear h1
  go_upto_region 4 with fail
  try rw [s1]
  clear h2 hz l0
  obtain ⟨x0, x1, x2, x3, x4⟩ := HX2.out
  go_wp2_with fail
  refine kc.mono ?_
  rintro e w3 ⟨v', rfl, hown, hb3⟩
  obtain ⟨ga, gc, rfl, _, _⟩ := RdAt.shape (RdAt.own hown)
  have HO := Lib.hid hown
  have HX3 := Lib.hid (HX2.out.later hb3)
  obtain ⟨z0, z1, z2, z3, z4⟩ := HZ2.out.later hb3
  have HT3 := Lib.hid (there_later HT1.out hb3 (by omega))
  have HT4 := Lib.hid (there_later HT2.out hb3 (by omega))
  have HB3 := Lib.hid (HB2.out.trans (hb3.mono HB2.out.size))
  have hs3 := hb3.size
  clear kc hown hb3 x0 x1 x2 x3 x4 HX2 HT1 HT2 HB2
  obtain ⟨x0, x1, x2, x3, x4⟩ := HX3.out
  have g0 := there_free HT4.out 0 (by omega)
  have f0 := there_free HT3.out 0 (by omega)
  have f1 := there_free HT3.out 1 (by omega)
  have f2 := there_free HT3.out 2 (by omega)
  have f3 := there_free HT3.out 3 (by omega)
  have f4 := there_free HT3.out 4 (by omega)
  go_wp2
  have hT := World.there_setCells HT3.out (w.heap.size + 1) 0 [.slice ga ms.length gc]
  refine bodyPost_ret (results_agg2 rfl _ _ w.heap.size [.slice ga ms.length gc, .int .i64 fr, .int .i64 til, .int .i64 lv, .int .u32 c] (.struct _) rfl (World.rangeAt_setCells_same _ w.heap.size 0 [.slice ga ms.length gc, .int .i64 fr, .int .i64 til, .int .i64 lv, .int .u32 c] hT) Tryz.underlying67 rfl (by kernel_rfl)) rfl ?_
  have hba := below_puts (g := w.heap.size + 1) (o := 0) HB3.out (by omega) [.slice ga ms.length gc]
  have hbb := below_puts (g := w.heap.size) (o := 0) hba (by omega) [.slice ga ms.length gc, .int .i64 fr, .int .i64 til, .int .i64 lv, .int .u32 c]
  have ho : ∀ q, (Value.slice ga ms.length gc).ownBlock = some q → w.heap.size + 1 + 1 ≤ q := fun q hq => by
    have := (HO.out.lt q hq).1
    omega
  have hF3 := rd_puts (g := w.heap.size + 1) (o := 0) (RdAt.own HO.out) (fun q hq => by have := ho q hq; omega) [.slice ga ms.length gc]
  have hF4 := rd_puts (g := w.heap.size) (o := 0) hF3 (fun q hq => by have := ho q hq; omega) [.slice ga ms.length gc, .int .i64 fr, .int .i64 til, .int .i64 lv, .int .u32 c]
  exact ⟨(ga, ms.length, gc), rfl, hF4, hbb⟩
set_option maxHeartbeats 1600000 in
set_option maxRecDepth 100000 in
theorem get_nil (id : Int) (w : World) : Calls Tryz.prog 38 #[.pointer none, .int .i64 id] w fun e w' => e = .returned (.tuple #[zeroS.v, .bool false]) ∧ Below w.heap.size w w' := by
  have hb := alloc_below w (.cells #[.slice none 0 0, .int .i64 0, .int .i64 0, .int .i64 0, .int .u32 0] 67)
  have ht := box_there (Below.refl _ (w.alloc (.cells #[.slice none 0 0, .int .i64 0, .int .i64 0, .int .i64 0, .int .u32 0] 67)))
  have x := alc5 w (.slice none 0 0) (.int .i64 0) (.int .i64 0) (.int .i64 0) (.int .u32 0) 67
  obtain ⟨W1, h1⟩ : ∃ z, w.alloc (.cells #[.slice none 0 0, .int .i64 0, .int .i64 0, .int .i64 0, .int .u32 0] 67) = z := ⟨_, rfl⟩
  rw [h1] at hb ht x
  change W1.there w.heap.size 0 5 at ht
  have HB := Lib.hid hb
  have HT := Lib.hid ht
  have f0 := there_free ht 0 (by omega)
  have f1 := there_free ht 1 (by omega)
  have f2 := there_free ht 2 (by omega)
  have f3 := there_free ht 3 (by omega)
  have f4 := there_free ht 4 (by omega)
  obtain ⟨z0, z1, z2, z3, z4⟩ := x
  clear hb ht
  go_enter Tryz.func38, Tryz.ntmps38
  go_upto_region 1 with fail
  try rw [h1]
  clear h1
  go_wp2
  refine bodyPost_ret (results_agg2 rfl _ _ w.heap.size [.slice none 0 0, .int .i64 0, .int .i64 0, .int .i64 0, .int .u32 0] (.struct _) rfl (World.rangeAt_setCells_same _ w.heap.size 0 [.slice none 0 0, .int .i64 0, .int .i64 0, .int .i64 0, .int .u32 0] HT.out) Tryz.underlying67 rfl (by kernel_rfl)) rfl ?_
  exact ⟨rfl, below_puts (g := w.heap.size) (o := 0) HB.out (by omega) [.slice none 0 0, .int .i64 0, .int .i64 0, .int .i64 0, .int .u32 0]⟩
end Go.Proofs.YtcfococinllcmaaGreat

/- the law's steps: kind, back. -/
namespace Go.Proofs.YtcfococinllcmaaGreat
open Go.RowKit

/-- a step: kind, number, time; its silence's own number; the silence -/
structure SOp where
  kd : Int
  id : Int
  now : Int
  sid : Int
  s : Sil
abbrev SOp.v (o : SOp) : Value := .agg #[.int .i64 o.kd, .int .i64 o.id, .int .i64 o.now, .int .i64 o.sid, .slice o.s.mv.1 o.s.mv.2.1 o.s.mv.2.2, .int .i64 o.s.fr, .int .i64 o.s.til, .int .i64 o.s.lv, .int .u32 o.s.c]
/-- the reference's silence -/
abbrev rsV (sid : Int) (s : Sil) : Value := .agg #[.int .i64 sid, .slice s.mv.1 s.mv.2.1 s.mv.2.2, .int .i64 s.fr, .int .i64 s.til, .int .i64 s.lv, .int .u32 s.c]
def kindO (k : Int) : Nat := ((k % 18446744073709551616) % 3).toNat
theorem kindO_lt (k : Int) : kindO k < 3 := by
  unfold kindO
  have := Int.emod_lt_of_pos (k % 18446744073709551616) (by decide : (0 : Int) < 3)
  have := Int.emod_nonneg (k % 18446744073709551616) (by decide : (3 : Int) ≠ 0)
  omega
theorem kindO_eq (k : Int) : wrap64 ((IntKind.u64.wrap k).tmod 3) = (kindO k : Int) := by
  have h1 : 0 ≤ k % 18446744073709551616 := Int.emod_nonneg _ (by omega)
  rw [IntKind.wrap_u64, Int.tmod_eq_emod_of_nonneg h1]
  have h2 := Int.emod_nonneg (k % 18446744073709551616) (by decide : (3 : Int) ≠ 0)
  have h3 := Int.emod_lt_of_pos (k % 18446744073709551616) (by decide : (0 : Int) < 3)
  rw [IntWalk.wrap64_in _ ⟨by omega, by omega⟩]
  unfold kindO
  omega
set_option maxHeartbeats 1600000 in
theorem kind_any (o : SOp) (w : World) : Calls Tryz.prog 24 #[o.v] w fun e w' => e = .returned (.int .i64 ((kindO o.kd : Nat) : Int)) ∧ Below w.heap.size w w' := by
  have hb := alloc_below w (.cells #[.int .i64 o.kd, .int .i64 o.id, .int .i64 o.now, .int .i64 o.sid, .slice o.s.mv.1 o.s.mv.2.1 o.s.mv.2.2, .int .i64 o.s.fr, .int .i64 o.s.til, .int .i64 o.s.lv, .int .u32 o.s.c] 60)
  have hx := box_later (Below.refl (w.alloc (.cells #[.int .i64 o.kd, .int .i64 o.id, .int .i64 o.now, .int .i64 o.sid, .slice o.s.mv.1 o.s.mv.2.1 o.s.mv.2.2, .int .i64 o.s.fr, .int .i64 o.s.til, .int .i64 o.s.lv, .int .u32 o.s.c] 60)).heap.size (w.alloc (.cells #[.int .i64 o.kd, .int .i64 o.id, .int .i64 o.now, .int .i64 o.sid, .slice o.s.mv.1 o.s.mv.2.1 o.s.mv.2.2, .int .i64 o.s.fr, .int .i64 o.s.til, .int .i64 o.s.lv, .int .u32 o.s.c] 60))) (i := 0) (x := .int .i64 o.kd) rfl
  have HB := Lib.hid hb
  have HK := Lib.hid (kindO_eq o.kd)
  unfold SOp.v
  clear hb
  go_enter Tryz.func24, Tryz.ntmps24
  go_wp2
  go_ret
  exact ⟨by rw [← HK.out]; rfl, HB.out⟩
set_option maxHeartbeats 1600000 in
set_option maxRecDepth 100000 in
theorem sback_any (sid : Int) (s : Sil) (w : World) : Calls Tryz.prog 26 #[rsV sid s] w fun e w' => e = .returned s.v ∧ Below w.heap.size w w' := by
  obtain ⟨id, ⟨ma, mn, mc⟩, ms, fr, til, lv, c⟩ := s
  unfold rsV Sil.v
  dsimp only
  obtain ⟨W1, h1⟩ : ∃ z, w.alloc (.cells #[.int .i64 sid, .slice ma mn mc, .int .i64 fr, .int .i64 til, .int .i64 lv, .int .u32 c] 58) = z := ⟨_, rfl⟩
  obtain ⟨W2, h2⟩ : ∃ z, W1.alloc (.cells #[.slice none 0 0, .int .i64 0, .int .i64 0, .int .i64 0, .int .u32 0] 67) = z := ⟨_, rfl⟩
  have s1 : W1.heap.size = w.heap.size + 1 := by rw [← h1, World.size_alloc]
  have b1 : Below w.heap.size w W1 := by rw [← h1]; exact alloc_below _ _
  have b2 : Below W1.heap.size W1 W2 := by rw [← h2]; exact alloc_below _ _
  have hr := Below.refl W2.heap.size W2
  have g1 : Below (w.alloc (.cells #[.int .i64 sid, .slice ma mn mc, .int .i64 fr, .int .i64 til, .int .i64 lv, .int .u32 c] 58)).heap.size (w.alloc (.cells #[.int .i64 sid, .slice ma mn mc, .int .i64 fr, .int .i64 til, .int .i64 lv, .int .u32 c] 58)) W2 := by rw [h1]; exact b2
  have y1 := box_later g1 (i := 1) rfl
  have y2 := box_later g1 (i := 2) rfl
  have y3 := box_later g1 (i := 3) rfl
  have y4 := box_later g1 (i := 4) rfl
  have y5 := box_later g1 (i := 5) rfl
  have z1 := alc5 W1 (.slice none 0 0) (.int .i64 0) (.int .i64 0) (.int .i64 0) (.int .u32 0) 67
  have t1 := box_there (Below.refl _ (W1.alloc (.cells #[.slice none 0 0, .int .i64 0, .int .i64 0, .int .i64 0, .int .u32 0] 67)))
  rw [h2] at z1 t1
  change W2.there W1.heap.size 0 5 at t1
  rw [s1] at z1 t1
  have f0 := there_free t1 0 (by omega)
  have f1 := there_free t1 1 (by omega)
  have f2 := there_free t1 2 (by omega)
  have f3 := there_free t1 3 (by omega)
  have f4 := there_free t1 4 (by omega)
  have HB := Lib.hid (b1.trans (b2.mono (by omega)))
  have HT := Lib.hid t1
  obtain ⟨z0, z1, z2, z3, z4⟩ := z1
  clear hr g1 b1 b2 t1
  go_enter Tryz.func26, Tryz.ntmps26
  go_upto_region 1 with fail
  try rw [h1]
  try rw [h2]
  try rw [s1]
  clear h1 h2
  go_wp2
  refine bodyPost_ret (results_agg1 rfl _ _ (w.heap.size + 1) [.slice ma mn mc, .int .i64 fr, .int .i64 til, .int .i64 lv, .int .u32 c] (.struct _) rfl (World.rangeAt_setCells_same _ (w.heap.size + 1) 0 [.slice ma mn mc, .int .i64 fr, .int .i64 til, .int .i64 lv, .int .u32 c] HT.out) Tryz.underlying67 rfl (by kernel_rfl)) rfl ?_
  exact ⟨rfl, below_puts (g := w.heap.size + 1) (o := 0) HB.out (by omega) [.slice ma mn mc, .int .i64 fr, .int .i64 til, .int .i64 lv, .int .u32 c]⟩
theorem mtCells_takeS (l : List Mt) (i : Nat) : mtCells (l.take i) = (mtCells l).take (i * 3) := by
  induction l generalizing i with
  | nil => simp [mtCells]
  | cons f l ih =>
    cases i with
    | zero => simp [mtCells]
    | succ i => rw [List.take_succ_cons, mtCells, ih, mtCells, show (i + 1) * 3 = i * 3 + 1 + 1 + 1 by omega]; rfl
theorem rd_takeS {w : World} {a : Option Addr} {n c size : Nat} {xs : List Value} (h : RdAt w (.slice a n c) n size xs) (k : Nat) (hk : k ≤ n) (hn : a = none → n = 0) : RdAt w (.slice a k c) k size (xs.take (k * size)) := by
  refine ⟨by rw [List.length_take, h.1, Nat.min_eq_left (Nat.mul_le_mul_right _ hk)], ?_⟩
  rcases h.2 with ⟨h1, h0⟩ | ⟨ad, c', h1, hc, hr⟩
  · simp only [Value.slice.injEq] at h1
    obtain ⟨rfl, h2, rfl⟩ := h1
    exact .inl ⟨by rw [show k = 0 by omega], by omega⟩
  · simp only [Value.slice.injEq] at h1
    obtain ⟨rfl, _, rfl⟩ := h1
    refine .inr ⟨ad, c, rfl, by omega, fun h0 => ?_⟩
    obtain ⟨b, o, rfl, hlt, hcell⟩ := hr (by omega)
    refine ⟨b, o, rfl, hlt, fun j x hj => hcell j x ?_⟩
    have hjl := (List.getElem?_eq_some_iff.1 hj).1
    rw [List.length_take] at hjl
    rwa [List.getElem?_take_of_lt (by omega)] at hj
theorem mts_takeS {w : World} {a : Option Addr} {c : Nat} {l : List Mt} (h : MtsAt w (.slice a l.length c) l) (k : Nat) (hk : k ≤ l.length) (hn : a = none → l.length = 0) : MtsAt w (.slice a k c) (l.take k) := by
  have hl : (l.take k).length = k := by rw [List.length_take]; omega
  unfold MtsAt at h ⊢
  rw [hl, mtCells_takeS]
  exact rd_takeS h k hk hn
theorem none_ofS {w : World} {size n c : Nat} {a : Option Addr} {xs : List Value} (h : RdAt w (.slice a n c) n size xs) : a = none → n = 0 := by
  rintro rfl
  rcases h.2 with ⟨h1, h0⟩ | ⟨ad, c', h1, _⟩
  · exact h0
  · cases h1
theorem min_cutS {α : Type} (l : List α) (m : Nat) : ∃ k : Nat, k ≤ l.length ∧ l.take m = l.take k ∧ min (l.length : Int) m = (k : Int) ∧ k ≤ m := by
  rcases Nat.le_total l.length m with h | h
  · exact ⟨l.length, Nat.le_refl _, by rw [List.take_length, List.take_of_length_le h], by omega, h⟩
  · exact ⟨m, h, rfl, by omega, Nat.le_refl _⟩
/-- the first 14 matchers -/
def cutS (s : Sil) : Sil := { s with ms := s.ms.take 14 }
set_option maxHeartbeats 3200000 in
set_option maxRecDepth 100000 in
theorem short_any (o : SOp) (w : World) (hm : MtsAt w (SV o.s.mv) o.s.ms) (hl : o.s.ms.length ≤ maxLen) :
    Calls Tryz.prog 27 #[o.v] w fun e w' => ∃ mv : Option Addr × Nat × Nat, e = .returned (rsV o.sid { cutS o.s with mv := mv }) ∧ MtsAt w (SV mv) (cutS o.s).ms ∧ Below w.heap.size w w' := by
  obtain ⟨kd, id, now, sid, ⟨xid, ⟨xa, xn, xc⟩, ms, fr, til, lv, c⟩⟩ := o
  dsimp only [SV] at hm hl
  obtain ⟨ma, mc, e, hmc, _⟩ := RdAt.shape hm
  rw [e] at hm
  simp only [Value.slice.injEq] at e
  obtain ⟨rfl, rfl, rfl⟩ := e
  obtain ⟨k, hk, hkl, hmin, _⟩ := min_cutS ms 14
  change min (ms.length : Int) 14 = _ at hmin
  have HMT := Lib.hid (mts_takeS hm k hk (none_ofS hm))
  have HKL := Lib.hid hkl
  have hkc : k ≤ xc := Nat.le_trans hk hmc
  have hkm : k < 9223372036854775807 := by unfold maxLen at hl; omega
  have hmn63 : ms.length ≤ 9223372036854775807 := by unfold maxLen at hl; omega
  unfold SOp.v rsV cutS
  dsimp only
  obtain ⟨W1, h1⟩ : ∃ z, w.alloc (.cells #[.int .i64 kd, .int .i64 id, .int .i64 now, .int .i64 sid, .slice xa ms.length xc, .int .i64 fr, .int .i64 til, .int .i64 lv, .int .u32 c] 60) = z := ⟨_, rfl⟩
  obtain ⟨W2, h2⟩ : ∃ z, W1.alloc (.cells #[.int .i64 0, .slice none 0 0, .int .i64 0, .int .i64 0, .int .i64 0, .int .u32 0] 58) = z := ⟨_, rfl⟩
  obtain ⟨W3, h3⟩ : ∃ z, W2.alloc (.cells #[.int .i64 sid, .slice xa ms.length xc, .int .i64 fr, .int .i64 til, .int .i64 lv, .int .u32 c] 58) = z := ⟨_, rfl⟩
  have s1 : W1.heap.size = w.heap.size + 1 := by rw [← h1, World.size_alloc]
  have s2 : W2.heap.size = w.heap.size + 1 + 1 := by rw [← h2, World.size_alloc, s1]
  have b1 : Below w.heap.size w W1 := by rw [← h1]; exact alloc_below _ _
  have b2 : Below W1.heap.size W1 W2 := by rw [← h2]; exact alloc_below _ _
  have b3 : Below W2.heap.size W2 W3 := by rw [← h3]; exact alloc_below _ _
  have g1 : Below (w.alloc (.cells #[.int .i64 kd, .int .i64 id, .int .i64 now, .int .i64 sid, .slice xa ms.length xc, .int .i64 fr, .int .i64 til, .int .i64 lv, .int .u32 c] 60)).heap.size (w.alloc (.cells #[.int .i64 kd, .int .i64 id, .int .i64 now, .int .i64 sid, .slice xa ms.length xc, .int .i64 fr, .int .i64 til, .int .i64 lv, .int .u32 c] 60)) W2 := by rw [h1]; exact b2
  have y3 := box_later g1 (i := 3) rfl
  have y4 := box_later g1 (i := 4) rfl
  have y5 := box_later g1 (i := 5) rfl
  have y6 := box_later g1 (i := 6) rfl
  have y7 := box_later g1 (i := 7) rfl
  have y8 := box_later g1 (i := 8) rfl
  have g2 : Below (W1.alloc (.cells #[.int .i64 0, .slice none 0 0, .int .i64 0, .int .i64 0, .int .i64 0, .int .u32 0] 58)).heap.size (W1.alloc (.cells #[.int .i64 0, .slice none 0 0, .int .i64 0, .int .i64 0, .int .i64 0, .int .u32 0] 58)) W3 := by rw [h2]; exact b3
  have z0 := box_later g2 (i := 0) rfl
  have z1 := box_later g2 (i := 1) rfl
  have z2 := box_later g2 (i := 2) rfl
  have z3 := box_later g2 (i := 3) rfl
  have z4 := box_later g2 (i := 4) rfl
  have z5 := box_later g2 (i := 5) rfl
  have t1 := box_there g2
  have hr3 := Below.refl (W2.alloc (.cells #[.int .i64 sid, .slice xa ms.length xc, .int .i64 fr, .int .i64 til, .int .i64 lv, .int .u32 c] 58)).heap.size (W2.alloc (.cells #[.int .i64 sid, .slice xa ms.length xc, .int .i64 fr, .int .i64 til, .int .i64 lv, .int .u32 c] 58))
  have u0 := box_later hr3 (i := 0) rfl
  have u1 := box_later hr3 (i := 1) rfl
  have u2 := box_later hr3 (i := 2) rfl
  have u3 := box_later hr3 (i := 3) rfl
  have u4 := box_later hr3 (i := 4) rfl
  have u5 := box_later hr3 (i := 5) rfl
  have t3 := box_there hr3
  rw [h3] at u0 u1 u2 u3 u4 u5 t3
  change W3.there W1.heap.size 0 6 at t1
  change W3.there W2.heap.size 0 6 at t3
  rw [s1] at t1 z0 z1 z2 z3 z4 z5
  rw [s2] at t3 u0 u1 u2 u3 u4 u5
  have f0 := there_free t1 0 (by omega)
  have f1 := there_free t1 1 (by omega)
  have f2 := there_free t1 2 (by omega)
  have f3 := there_free t1 3 (by omega)
  have f4 := there_free t1 4 (by omega)
  have f5 := there_free t1 5 (by omega)
  have e1 := there_free t3 1 (by omega)
  have HB := Lib.hid ((b1.trans (b2.mono (by omega))).trans (b3.mono (by omega)))
  have HT := Lib.hid t1
  clear hr3 g1 g2 b1 b2 b3 t1 t3 hm hkl hk hmc hl
  go_enter Tryz.func27, Tryz.ntmps27
  go_upto_region 1 with fail
  try rw [h1]
  try rw [h2]
  clear h1 h2
  go_upto_region 2 with fail
  try rw [h3]
  try rw [s1]
  try rw [s2]
  clear h3 y3 y4 y5 y6 y7 y8
  go_wp2
  have hT := World.there_setCells HT.out (w.heap.size + 1 + 1) 1 [.slice xa k xc]
  refine bodyPost_ret (results_agg1 rfl _ _ (w.heap.size + 1) [.int .i64 sid, .slice xa k xc, .int .i64 fr, .int .i64 til, .int .i64 lv, .int .u32 c] (.struct _) rfl (World.rangeAt_setCells_same _ (w.heap.size + 1) 0 [.int .i64 sid, .slice xa k xc, .int .i64 fr, .int .i64 til, .int .i64 lv, .int .u32 c] hT) Tryz.underlying58 rfl (by kernel_rfl)) rfl ?_
  have hba := below_puts (g := w.heap.size + 1 + 1) (o := 1) HB.out (by omega) [.slice xa k xc]
  have hbb := below_puts (g := w.heap.size + 1) (o := 0) hba (by omega) [.int .i64 sid, .slice xa k xc, .int .i64 fr, .int .i64 til, .int .i64 lv, .int .u32 c]
  exact ⟨(xa, k, xc), rfl, by rw [HKL.out]; exact HMT.out, hbb⟩
end Go.Proofs.YtcfococinllcmaaGreat

/- the law's steps: does. -/
namespace Go.Proofs.YtcfococinllcmaaGreat
open Go.RowKit

/-- nine cells at a place -/
def C9 (p : Nat) (a b c d e f g h i : Value) (W : World) : Prop := W.cell? ⟨p, 0, none⟩ = some a ∧ W.cell? ⟨p, 1, none⟩ = some b ∧ W.cell? ⟨p, 2, none⟩ = some c ∧ W.cell? ⟨p, 3, none⟩ = some d ∧ W.cell? ⟨p, 4, none⟩ = some e ∧ W.cell? ⟨p, 5, none⟩ = some f ∧ W.cell? ⟨p, 6, none⟩ = some g ∧ W.cell? ⟨p, 7, none⟩ = some h ∧ W.cell? ⟨p, 8, none⟩ = some i
theorem C9.later {p : Nat} {a b c d e f g h i : Value} {W W' : World} (x : C9 p a b c d e f g h i W) (hb : Below W.heap.size W W') : C9 p a b c d e f g h i W' := by
  obtain ⟨h0, h1, h2, h3, h4, h5, h6, h7, h8⟩ := x
  exact ⟨keep_cell h0 hb (cell_lt h0), keep_cell h1 hb (cell_lt h1), keep_cell h2 hb (cell_lt h2), keep_cell h3 hb (cell_lt h3), keep_cell h4 hb (cell_lt h4), keep_cell h5 hb (cell_lt h5), keep_cell h6 hb (cell_lt h6), keep_cell h7 hb (cell_lt h7), keep_cell h8 hb (cell_lt h8)⟩
theorem alc9 (W : World) (a b c d e f g h i : Value) (t : TypeId) : C9 W.heap.size a b c d e f g h i (W.alloc (.cells #[a, b, c, d, e, f, g, h, i] t)) := by
  have hc : ∀ (j : Nat), (W.alloc (.cells #[a, b, c, d, e, f, g, h, i] t)).cell? ⟨W.heap.size, j, none⟩ = _ := fun j => World.cell?_alloc_at _ _ _ _ rfl
  exact ⟨hc 0, hc 1, hc 2, hc 3, hc 4, hc 5, hc 6, hc 7, hc 8⟩
/-- a step may be read -/
structure OpAt (w : World) (o : SOp) : Prop where
  ms : MtsAt w (SV o.s.mv) o.s.ms
  fit : MtsFit o.s.ms
  len : o.s.ms.length ≤ maxLen
  wf : (Lit.int .i64 o.id).wf = true
theorem OpAt.later {w w' : World} {o : SOp} (h : OpAt w o) (hb : Below w.heap.size w w') : OpAt w' o := ⟨RdAt.later h.ms hb, h.fit, h.len, h.wf⟩
/-- what a step says, and leaves -/
inductive DoesS (o : SOp) (S : List Sil) (last : Int) : Value → List Sil → Int → Prop
  | lay (h : kindO o.kd = 0) (mv : Option Addr × Nat × Nat) {S' : List Sil} {last' : Int} (hl : LayS S last { cutS o.s with mv := mv } S' last') : DoesS o S last (layE S { cutS o.s with mv := mv } last) S' last'
  | fin (h : kindO o.kd = 1) : DoesS o S last (.tuple #[.int .i64 0, .int .i64 (endE S o.id o.now)]) (endL S o.id o.now) last
  | forget (h : kindO o.kd = 2) : DoesS o S last (.tuple #[.int .i64 ((S.countP (endS o.now) : Nat) : Int), .int .i64 0]) (S.filter fun s => !endS o.now s) last
theorem cutS_len (s : Sil) : (cutS s).ms.length ≤ 14 := by unfold cutS; rw [List.length_take]; omega
theorem cutS_fit {s : Sil} (h : MtsFit s.ms) : MtsFit (cutS s).ms := fun m hm => h m (List.mem_of_mem_take hm)
set_option maxHeartbeats 3200000 in
set_option maxRecDepth 100000 in
theorem does_any (o : SOp) (lp m n : Nat) (S : List Sil) (last : Int) (w : World) (h : SlAt w lp m n S last) (ho : OpAt w o) (hn : n < 1000000) (hla : last < 1000000) (hl0 : 0 ≤ last) :
    Calls Tryz.prog 34 #[.pointer (some ⟨lp, 0, none⟩), o.v] w fun e w' =>
      ∃ r S' last' n', e = .returned r ∧ DoesS o S last r S' last' ∧ SlAt w' lp m n' S' last' ∧ n' ≤ n + 1 ∧ Kp lp m w w' := by
  have hb := alloc_below w (.cells #[.int .i64 o.kd, .int .i64 o.id, .int .i64 o.now, .int .i64 o.sid, .slice o.s.mv.1 o.s.mv.2.1 o.s.mv.2.2, .int .i64 o.s.fr, .int .i64 o.s.til, .int .i64 o.s.lv, .int .u32 o.s.c] 60)
  have x := alc9 w (.int .i64 o.kd) (.int .i64 o.id) (.int .i64 o.now) (.int .i64 o.sid) (.slice o.s.mv.1 o.s.mv.2.1 o.s.mv.2.2) (.int .i64 o.s.fr) (.int .i64 o.s.til) (.int .i64 o.s.lv) (.int .u32 o.s.c) 60
  obtain ⟨W1, hW1⟩ : ∃ z, w.alloc (.cells #[.int .i64 o.kd, .int .i64 o.id, .int .i64 o.now, .int .i64 o.sid, .slice o.s.mv.1 o.s.mv.2.1 o.s.mv.2.2, .int .i64 o.s.fr, .int .i64 o.s.til, .int .i64 o.s.lv, .int .u32 o.s.c] 60) = z := ⟨_, rfl⟩
  rw [hW1] at hb x
  have kk := kind_any o W1
  have HB1 := Lib.hid hb
  have HX1 := Lib.hid x
  have H := Lib.hid h
  have HO := Lib.hid ho
  obtain ⟨x0, x1, x2, x3, x4, x5, x6, x7, x8⟩ := x
  obtain ⟨K, hK⟩ : ∃ K, kindO o.kd = K := ⟨_, rfl⟩
  have hK3 : K < 3 := hK ▸ kindO_lt o.kd
  rw [hK] at kk
  have HK := Lib.hid hK
  unfold SOp.v at kk ⊢
  clear h ho hb hK
  go_enter Tryz.func34, Tryz.ntmps34
  go_upto_region 1 with fail
  clear hW1
  go_wp2_with fail
  refine kk.mono ?_
  rintro e w2 ⟨rfl, hb2⟩
  have HB2 := Lib.hid (HB1.out.trans (hb2.mono HB1.out.size))
  have HX2 := Lib.hid (HX1.out.later hb2)
  clear kk hb2 HB1 HX1 x0 x1 x2 x3 x4 x5 x6 x7 x8
  obtain ⟨x0, x1, x2, x3, x4, x5, x6, x7, x8⟩ := HX2.out
  have H2 := Lib.hid (H.out.later HB2.out)
  have HO2 := Lib.hid (HO.out.later HB2.out)
  have hc : K = 0 ∨ K = 1 ∨ K = 2 := by omega
  rcases hc with rfl | rfl | rfl
  · have ks := short_any o w2 HO2.out.ms HO2.out.len
    unfold SOp.v at ks
    go_wp2_with fail
    refine ks.mono ?_
    rintro e w3 ⟨mv, rfl, hmv, hb3⟩
    have kb := sback_any o.sid { cutS o.s with mv := mv } w3
    have H3 := Lib.hid (H2.out.later hb3)
    have HM3 := Lib.hid (RdAt.later hmv hb3)
    have HB3 := Lib.hid (HB2.out.trans (hb3.mono HB2.out.size))
    clear ks hmv hb3
    go_wp2_with fail
    refine kb.mono ?_
    rintro e w4 ⟨rfl, hb4⟩
    have kl := lay_any lp m n S last { cutS o.s with mv := mv } w4 (H3.out.later hb4) (RdAt.later HM3.out hb4) (cutS_fit HO.out.fit) (by have := cutS_len o.s; show (cutS o.s).ms.length ≤ _; omega) hn hla hl0
    have HB4 := Lib.hid (HB3.out.trans (hb4.mono HB3.out.size))
    clear kb hb4
    go_wp2_with fail
    refine kl.mono ?_
    rintro e w5 ⟨rfl, S', last', n', hS, hL, hn', hk, _⟩
    have HE := Lib.hid (DoesS.lay (o := o) HK.out mv hL)
    have HS := Lib.hid hS
    have HKP := Lib.hid ((Kp.of_below HB4.out).trans hk)
    clear kl hS hL hk
    unfold layE at HE ⊢
    generalize (if laysS S { cutS o.s with mv := mv } = true then last + 1 else 0) = q1 at *
    generalize (if rightS { cutS o.s with mv := mv } = true then (if quoS S { cutS o.s with mv := mv } = 10 then (7 : Int) else 0) else 1) = q2 at *
    go_wp2
    go_ret2
    exact ⟨_, S', last', n', rfl, HE.out, HS.out, hn', HKP.out⟩
  · have ke := end_any lp m n S last o.id o.now w2 H2.out HO.out.wf hn
    go_wp2_with fail
    refine ke.mono ?_
    rintro e w3 ⟨rfl, n', hS, hn', hk⟩
    have HS := Lib.hid hS
    have HKP := Lib.hid ((Kp.of_below HB2.out).trans hk)
    clear ke hS hk
    go_wp2
    go_ret2
    exact ⟨_, _, _, n', rfl, .fin HK.out, HS.out, hn', HKP.out⟩
  · have kf := forget_any lp m n S last o.now w2 H2.out
    go_wp2_with fail
    refine kf.mono ?_
    rintro e w3 ⟨rfl, hS, hk⟩
    have HS := Lib.hid hS
    have HKP := Lib.hid ((Kp.of_below HB2.out).trans hk)
    clear kf hS hk
    go_wp2
    go_ret2
    exact ⟨_, _, _, n, rfl, .forget HK.out, HS.out, by omega, HKP.out⟩
end Go.Proofs.YtcfococinllcmaaGreat

/- the law's steps: does, at a list that isn't there. -/
namespace Go.Proofs.YtcfococinllcmaaGreat
open Go.RowKit

set_option maxHeartbeats 3200000 in
set_option maxRecDepth 100000 in
theorem does_nil (o : SOp) (w : World) (ho : OpAt w o) :
    Calls Tryz.prog 34 #[.pointer none, o.v] w fun e w' =>
      e = .returned (.tuple #[.int .i64 0, .int .i64 (if kindO o.kd = 2 then 0 else 1)]) ∧ Below w.heap.size w w' := by
  have hb := alloc_below w (.cells #[.int .i64 o.kd, .int .i64 o.id, .int .i64 o.now, .int .i64 o.sid, .slice o.s.mv.1 o.s.mv.2.1 o.s.mv.2.2, .int .i64 o.s.fr, .int .i64 o.s.til, .int .i64 o.s.lv, .int .u32 o.s.c] 60)
  have x := alc9 w (.int .i64 o.kd) (.int .i64 o.id) (.int .i64 o.now) (.int .i64 o.sid) (.slice o.s.mv.1 o.s.mv.2.1 o.s.mv.2.2) (.int .i64 o.s.fr) (.int .i64 o.s.til) (.int .i64 o.s.lv) (.int .u32 o.s.c) 60
  obtain ⟨W1, hW1⟩ : ∃ z, w.alloc (.cells #[.int .i64 o.kd, .int .i64 o.id, .int .i64 o.now, .int .i64 o.sid, .slice o.s.mv.1 o.s.mv.2.1 o.s.mv.2.2, .int .i64 o.s.fr, .int .i64 o.s.til, .int .i64 o.s.lv, .int .u32 o.s.c] 60) = z := ⟨_, rfl⟩
  rw [hW1] at hb x
  have kk := kind_any o W1
  have HB1 := Lib.hid hb
  have HX1 := Lib.hid x
  have HO := Lib.hid ho
  obtain ⟨x0, x1, x2, x3, x4, x5, x6, x7, x8⟩ := x
  obtain ⟨K, hK⟩ : ∃ K, kindO o.kd = K := ⟨_, rfl⟩
  have hK3 : K < 3 := hK ▸ kindO_lt o.kd
  rw [hK] at kk
  have HK := Lib.hid hK
  unfold SOp.v at kk ⊢
  rw [hK]
  clear ho hb hK
  go_enter Tryz.func34, Tryz.ntmps34
  go_upto_region 1 with fail
  clear hW1
  go_wp2_with fail
  refine kk.mono ?_
  rintro e w2 ⟨rfl, hb2⟩
  have HB2 := Lib.hid (HB1.out.trans (hb2.mono HB1.out.size))
  have HX2 := Lib.hid (HX1.out.later hb2)
  clear kk hb2 HB1 HX1 x0 x1 x2 x3 x4 x5 x6 x7 x8
  obtain ⟨x0, x1, x2, x3, x4, x5, x6, x7, x8⟩ := HX2.out
  have HO2 := Lib.hid (HO.out.later HB2.out)
  have hc : K = 0 ∨ K = 1 ∨ K = 2 := by omega
  rcases hc with rfl | rfl | rfl
  · have ks := short_any o w2 HO2.out.ms HO2.out.len
    unfold SOp.v at ks
    go_wp2_with fail
    refine ks.mono ?_
    rintro e w3 ⟨mv, rfl, hmv, hb3⟩
    have kb := sback_any o.sid { cutS o.s with mv := mv } w3
    have HB3 := Lib.hid (HB2.out.trans (hb3.mono HB2.out.size))
    clear ks hmv hb3
    go_wp2_with fail
    refine kb.mono ?_
    rintro e w4 ⟨rfl, hb4⟩
    have kl := lay_nil { cutS o.s with mv := mv } w4
    have HB4 := Lib.hid (HB3.out.trans (hb4.mono HB3.out.size))
    clear kb hb4
    go_wp2_with fail
    refine kl.mono ?_
    rintro e w5 ⟨rfl, hb5⟩
    have HB5 := Lib.hid (HB4.out.trans (hb5.mono HB4.out.size))
    clear kl hb5
    go_wp2
    go_ret2
    exact ⟨rfl, HB5.out⟩
  · have ke := end_nil o.id o.now w2
    go_wp2_with fail
    refine ke.mono ?_
    rintro e w3 ⟨rfl, hb3⟩
    have HB3 := Lib.hid (HB2.out.trans (hb3.mono HB2.out.size))
    clear ke hb3
    go_wp2
    go_ret2
    exact ⟨rfl, HB3.out⟩
  · have kf := forget_nil o.now w2
    go_wp2_with fail
    refine kf.mono ?_
    rintro e w3 ⟨rfl, hb3⟩
    have HB3 := Lib.hid (HB2.out.trans (hb3.mono HB2.out.size))
    clear kf hb3
    go_wp2
    go_ret2
    exact ⟨rfl, HB3.out⟩
end Go.Proofs.YtcfococinllcmaaGreat

/- the law's scripts: early. -/
namespace Go.Proofs.YtcfococinllcmaaGreat
open Go.RowKit

def opC (o : SOp) : List Value := [.int .i64 o.kd, .int .i64 o.id, .int .i64 o.now, .int .i64 o.sid, .slice o.s.mv.1 o.s.mv.2.1 o.s.mv.2.2, .int .i64 o.s.fr, .int .i64 o.s.til, .int .i64 o.s.lv, .int .u32 o.s.c]
def opCells : List SOp → List Value
  | [] => []
  | o :: l => opC o ++ opCells l
theorem opCells_take (l : List SOp) (i : Nat) : opCells (l.take i) = (opCells l).take (i * 9) := by
  induction l generalizing i with
  | nil => simp [opCells]
  | cons f l ih =>
    cases i with
    | zero => simp [opCells]
    | succ i =>
      have hl : (opC f).length = 9 := rfl
      rw [List.take_succ_cons, opCells, ih, opCells, List.take_append, List.take_of_length_le (l := opC f) (by rw [hl]; omega), hl, show (i + 1) * 9 - 9 = i * 9 by omega]
/-- steps in memory -/
structure OpsAt (w : World) (v : Value) (l : List SOp) : Prop where
  row : RdAt w v l.length 9 (opCells l)
  each : ∀ o ∈ l, OpAt w o
theorem OpsAt.later {w w' : World} {v : Value} {l : List SOp} (h : OpsAt w v l) (hb : Below w.heap.size w w') : OpsAt w' v l := ⟨RdAt.later h.row hb, fun o ho => (h.each o ho).later hb⟩
set_option maxHeartbeats 1600000 in
theorem early_any (l : List SOp) (v : Value) (w0 w : World) (h : OpsAt w0 v l) (hl : l.length ≤ maxLen) :
    Calls Tryz.prog 23 #[v] w fun e w' => ∃ v', e = .returned v' ∧ OpsAt w0 v' (l.take 60) ∧ Below w.heap.size w w' := by
  obtain ⟨a, c, rfl, hc, _⟩ := RdAt.shape h.row
  obtain ⟨k, hk, hkl, hmin, _⟩ := min_cutS l 60
  change min (l.length : Int) 60 = _ at hmin
  have HT : Hid (OpsAt w0 (.slice a k c) (l.take k)) := Lib.hid ⟨by
    have e : (l.take k).length = k := by rw [List.length_take]; omega
    rw [e, opCells_take]
    exact rd_takeS h.row k hk (none_ofS h.row), fun o ho => h.each o (List.mem_of_mem_take ho)⟩
  have HKL := Lib.hid hkl
  have hkc : k ≤ c := Nat.le_trans hk hc
  have hkm : k < 9223372036854775807 := by unfold maxLen at hl; omega
  have hmn63 : l.length ≤ 9223372036854775807 := by unfold maxLen at hl; omega
  generalize l.length = ln at *
  clear h hkl hl
  go_enter Tryz.func23, Tryz.ntmps23
  go_wp2
  go_ret
  exact ⟨.slice a k c, rfl, by rw [HKL.out]; exact HT.out, Below.refl _ _⟩
end Go.Proofs.YtcfococinllcmaaGreat

/- The arguments of chapter 10's laws: steps, scripts. -/
namespace Go.Proofs.YtcfococinllcmaaGreat
open Go.RowKit Go.WideShapes Go.ChangeShapes Go.Deep

section
variable {H : Type} {enc : TypeId × Value → H} {P : Program} {w : World} {base : Nat} {spare : Nat → Bool} {held : Bool}
/-- a slice: each element's cells, and what it reads as -/
theorem open_slice_elems {t e : TypeId} {fuel : Nat} {cs : List Value} {x : DataW H × List MemPlace} (ht : P.underlying t = some (.slice e))
    (h : DataW.trod enc P w base spare held fuel t cs = some x) :
    cs = [.slice none 0 0] ∨
    ∃ (a : Addr) (len cap : Nat), cs = [.slice (some a) len cap] ∧ len ≤ cap ∧ cap ≤ maxLen ∧
      ∀ i, i < len → ∃ (es : List Value) (n : Nat) (y : DataW H × List MemPlace), es.length = P.cellsOf e ∧ (∀ j, j < P.cellsOf e → w.cell? (a.add (i * P.cellsOf e + j)) = es[j]?) ∧ DataW.trod enc P w base spare held n e es = some y := by
  rcases open_slice ht h with ⟨h0, _⟩ | ⟨a, len, cap, m, n, D, Pl, hcs, hb, hl, hm, hmm, hx, hi⟩
  · exact .inl h0
  · refine .inr ⟨a, len, cap, hcs, hl, hm, fun i hil => ?_⟩
    obtain ⟨cs', hc, ht'⟩ := hi i (by rw [hmm]; split <;> omega)
    obtain ⟨_, hcl, hat⟩ := World.cells?_some hc
    exact ⟨cs', _, _, hcl, fun j hj => by rw [← Go.Deep.add_add]; exact hat j hj, ht'⟩
end
/-- a row of structs: its cells, one by one -/
theorem row_cells {W : World} {a : Addr} {len size : Nat} {f : Nat → List Value} (h0 : 0 < size) (hlen : ∀ i, i < len → (f i).length = size) (hat : ∀ i, i < len → ∀ j, j < size → W.cell? (a.add (i * size + j)) = (f i)[j]?) (hp : 0 < len) :
    ∃ b o, a = ⟨b, o, none⟩ ∧ b < W.heap.size ∧ ∀ i, i < len → ∀ j x, (f i)[j]? = some x → W.cell? ⟨b, o + (i * size + j), none⟩ = some x := by
  obtain ⟨b, off, spot⟩ := a
  obtain ⟨x0, hx0⟩ : ∃ x, (f 0)[0]? = some x := ⟨_, List.getElem?_eq_getElem (by rw [hlen 0 hp]; exact h0)⟩
  have hc := hat 0 hp 0 h0
  rw [hx0] at hc
  have hspot : spot = none := by simpa [Addr.add] using World.cell?_spot hc
  subst hspot
  refine ⟨b, off, rfl, by have := cell_ltA hc; simpa [Addr.add] using this, fun i hi j x hx => ?_⟩
  have hj : j < size := by have := (List.getElem?_eq_some_iff.1 hx).1; rw [hlen i hi] at this; exact this
  have := hat i hi j hj
  rw [add_off, hx] at this
  exact this
set_option maxRecDepth 100000 in
theorem mts_of_trod {H : Type} {enc : TypeId × Value → H} {W : World} {n : Nat} {v : Value} {x : DataW H × List MemPlace} (h : DataW.trod enc Tryz.prog W 0 (fun _ => true) true n 33 [v] = some x) : ∃ l, MtsAt W v l ∧ l.length ≤ maxLen ∧ MtsFit l := by
  have hC : Tryz.prog.cellsOf 108 = 3 := by kernel_rfl
  have hcs1 : Tryz.prog.cellsOf 9 = 1 := by kernel_rfl
  have hci : Tryz.prog.cellsOf 3 = 1 := by kernel_rfl
  rcases open_slice_structs Tryz.underlying33 Tryz.underlying108 h with hcs | ⟨a, len, cap, hcs, hl, hm, hf⟩
  · cases hcs
    exact ⟨[], RdAt.nil W 3, Nat.zero_le _, fun _ h => by cases h⟩
  · cases hcs
    rw [hC] at hf
    have hone : ∀ i, i < len → ∃ s : Mt, (∀ j, j < 3 → W.cell? (a.add (i * 3 + j)) = (mtC s)[j]?) ∧ MtFit s := by
      intro i hi
      obtain ⟨es, n, hlen, hat, hfs⟩ := hf i hi
      match es, hlen with
      | [e0, e1, e2], _ =>
        obtain ⟨y0, t0⟩ := hfs 0 _ rfl
        obtain ⟨y1, t1⟩ := hfs 1 _ rfl
        obtain ⟨y2, t2⟩ := hfs 2 _ rfl
        obtain ⟨s0, q0, _, z0⟩ := DataW.trod_string Tryz.underlying9 t0
        obtain ⟨k1, q1, _, _⟩ := DataW.trod_int Tryz.underlying3 t1
        obtain ⟨s2, q2, _, z2⟩ := DataW.trod_string Tryz.underlying9 t2
        simp [hcs1] at q0 q2
        simp [hci] at q1
        subst q0 q1 q2
        exact ⟨⟨s0, k1, s2⟩, hat, z0, z2⟩
    have hg : ∃ g : Nat → Mt, ∀ i, i < len → (∀ j, j < 3 → W.cell? (a.add (i * 3 + j)) = (mtC (g i))[j]?) ∧ MtFit (g i) :=
      ⟨fun i => if h : i < len then Classical.choose (hone i h) else default, fun i h => by have := Classical.choose_spec (hone i h); simpa only [dif_pos h] using this⟩
    obtain ⟨g, hg⟩ := hg
    have hgl : ((List.range len).map g).length = len := by simp
    refine ⟨(List.range len).map g, ⟨mtCells_len _, .inr ⟨a, cap, by rw [hgl], by omega, fun hn => ?_⟩⟩, by rw [hgl]; omega, fun s hs => ?_⟩
    · rw [hgl] at hn
      obtain ⟨b, o, rfl, hlt, hcell⟩ := row_cells (f := fun i => mtC (g i)) (size := 3) (by decide) (fun _ _ => rfl) (fun i hi => (hg i hi).1) hn
      refine ⟨b, o, rfl, hlt, fun j x hj => ?_⟩
      have hjl := (List.getElem?_eq_some_iff.1 hj).1
      rw [mtCells_len, hgl] at hjl
      obtain ⟨m, r, hr3, rfl⟩ : ∃ m r, r < 3 ∧ j = m * 3 + r := ⟨j / 3, j % 3, Nat.mod_lt _ (by decide), by omega⟩
      obtain ⟨q0, q1, q2⟩ := mtCells_at ((List.range len).map g) m (by rw [hgl]; omega)
      simp only [List.getElem_map, List.getElem_range] at q0 q1 q2
      refine hcell m (by omega) r x ?_
      match r, hr3 with
      | 0, _ => rw [Nat.add_zero, q0] at hj; exact hj
      | 1, _ => rw [q1] at hj; exact hj
      | 2, _ => rw [q2] at hj; exact hj
    · obtain ⟨i, hi, rfl⟩ := List.mem_map.1 hs
      exact (hg i (List.mem_range.1 hi)).2
/-- a step of an argument -/
def ArgOp (w : World) (v : Value) (o : SOp) : Prop := v = o.v ∧ OpAt w o ∧ o.s.c < 4294967296
theorem sil_of_trod {H : Type} {enc : TypeId × Value → H} {W : World} {n : Nat} {c3 c4 c5 c6 c7 c8 : Value} {x : DataW H × List MemPlace} (h : DataW.trod enc Tryz.prog W 0 (fun _ => true) true n 58 [c3, c4, c5, c6, c7, c8] = some x) :
    ∃ (i f t l : Int) (c : Nat) (mv : Option Addr × Nat × Nat) (ms : List Mt), c3 = .int .i64 i ∧ c4 = .slice mv.1 mv.2.1 mv.2.2 ∧ c5 = .int .i64 f ∧ c6 = .int .i64 t ∧ c7 = .int .i64 l ∧ c8 = .int .u32 c ∧ c < 4294967296 ∧ MtsAt W (SV mv) ms ∧ MtsFit ms ∧ ms.length ≤ maxLen := by
  have hci : Tryz.prog.cellsOf 3 = 1 := by kernel_rfl
  have hcl : Tryz.prog.cellsOf 26 = 2 := by kernel_rfl
  have hcm : Tryz.prog.cellsOf 33 = 1 := by kernel_rfl
  obtain ⟨ys, n', hn', hy, hlen, hyl, hf⟩ := DataW.trod_struct Tryz.underlying58 h
  have t0 := hf 0 _ rfl
  have t1 := hf 1 _ rfl
  have t2 := hf 2 _ rfl
  have t3 := hf 3 _ rfl
  have t4 := hf 4 _ rfl
  match ys, hyl with
  | [y0, y1, y2, y3, y4], _ =>
    obtain ⟨k0, q0, _, _⟩ := DataW.trod_int Tryz.underlying3 t0
    have t1' : DataW.trod enc Tryz.prog W 0 (fun _ => true) true n' 33 [c4] = some y1 := by simpa [hcm] using t1
    obtain ⟨ms, hms, hml, hmf⟩ := mts_of_trod t1'
    obtain ⟨k2, q2, _, _⟩ := DataW.trod_int Tryz.underlying3 t2
    obtain ⟨k3, q3, _, _⟩ := DataW.trod_int Tryz.underlying3 t3
    have t4' : DataW.trod enc Tryz.prog W 0 (fun _ => true) true n' 26 [c7, c8] = some y4 := by simpa [hcl] using t4
    obtain ⟨l, c, e2, e3, hc⟩ := lab_of_trod t4'
    simp [hci] at q0 q2 q3
    obtain ⟨a, m, rfl, _, _⟩ := RdAt.shape hms
    exact ⟨k0, k2, k3, l, c, (a, ms.length, m), ms, q0, rfl, q2, q3, e2, e3, hc, hms, hmf, hml⟩
theorem op_of_trod {H : Type} {enc : TypeId × Value → H} {W : World} {n : Nat} {c0 c1 c2 c3 c4 c5 c6 c7 c8 : Value} {x : DataW H × List MemPlace} (h : DataW.trod enc Tryz.prog W 0 (fun _ => true) true n 60 [c0, c1, c2, c3, c4, c5, c6, c7, c8] = some x) : ∃ o, ArgOp W (.agg #[c0, c1, c2, c3, c4, c5, c6, c7, c8]) o := by
  have hci : Tryz.prog.cellsOf 3 = 1 := by kernel_rfl
  have hcs : Tryz.prog.cellsOf 58 = 6 := by kernel_rfl
  obtain ⟨ys, n', hn', hy, hlen, hyl, hf⟩ := DataW.trod_struct Tryz.underlying60 h
  have t0 := hf 0 _ rfl
  have t1 := hf 1 _ rfl
  have t2 := hf 2 _ rfl
  have t3 := hf 3 _ rfl
  match ys, hyl with
  | [y0, y1, y2, y3], _ =>
    obtain ⟨k0, q0, _, _⟩ := DataW.trod_int Tryz.underlying3 t0
    obtain ⟨k1, q1, _, w1⟩ := DataW.trod_int Tryz.underlying3 t1
    obtain ⟨k2, q2, _, _⟩ := DataW.trod_int Tryz.underlying3 t2
    have t3' : DataW.trod enc Tryz.prog W 0 (fun _ => true) true n' 58 [c3, c4, c5, c6, c7, c8] = some y3 := by simpa [hcs] using t3
    obtain ⟨i, f, t, l, c, mv, ms, e3, e4, e5, e6, e7, e8, hc, hm, hmf, hml⟩ := sil_of_trod t3'
    simp [hci] at q0 q1 q2
    subst q0 q1 q2 e3 e4 e5 e6 e7 e8
    exact ⟨⟨k0, k1, k2, i, ⟨0, mv, ms, f, t, l, c⟩⟩, rfl, ⟨hm, hmf, hml, w1⟩, hc⟩
set_option maxRecDepth 100000 in
theorem op_of_arg {H : Type} {enc : TypeId × Value → H} {W : World} {base : Nat} {v : Value} {d : DataW H} {p : List MemPlace} (hval : Value.okWide Tryz.prog W .any base 60 v) (h : DataW.Trod enc Tryz.prog W 0 (fun _ => true) true 60 v d p) : ∃ o, ArgOp W v o := by
  obtain ⟨cs, rfl, hsz, _⟩ : ∃ cs, v = .agg cs ∧ cs.size = Tryz.prog.cellsOf 60 ∧ Row.okWide Tryz.prog W .any base 60 cs := by
    simpa [Value.okWide, Tryz.underlying60] using hval
  rw [show Tryz.prog.cellsOf 60 = 9 by kernel_rfl] at hsz
  obtain ⟨fuel, hf⟩ := h
  obtain ⟨l⟩ := cs
  match l, hsz with
  | [c0, c1, c2, c3, c4, c5, c6, c7, c8], _ => exact op_of_trod hf
/-- a script of an argument -/
def ArgOps (w : World) (v : Value) (l : List SOp) : Prop := OpsAt w v l ∧ l.length ≤ maxLen ∧ ∀ o ∈ l, o.s.c < 4294967296
theorem opCells_len (l : List SOp) : (opCells l).length = l.length * 9 := by
  induction l with
  | nil => rfl
  | cons o l ih => simp only [opCells, List.length_append, ih, List.length_cons]; show 9 + _ = _; omega
theorem opCells_at (l : List SOp) (i : Nat) (hi : i < l.length) (r : Nat) (z : Value) (hz : (opC l[i])[r]? = some z) : (opCells l)[i * 9 + r]? = some z := by
  induction l generalizing i with
  | nil => simp at hi
  | cons o l ih =>
    have hr : r < 9 := by have := (List.getElem?_eq_some_iff.1 hz).1; exact this
    cases i with
    | zero =>
      simp only [opCells]
      rw [List.getElem?_append_left (by show _ < 9; omega)]
      simpa using hz
    | succ i =>
      simp only [opCells]
      rw [List.getElem?_append_right (by show 9 ≤ _; omega)]
      have := ih i (by simpa using hi) (by simpa using hz)
      rw [show (i + 1) * 9 + r - (opC o).length = i * 9 + r by show (i + 1) * 9 + r - 9 = _; omega]
      exact this
set_option maxRecDepth 100000 in
theorem ops_of_trod {H : Type} {enc : TypeId × Value → H} {W : World} {n : Nat} {v : Value} {x : DataW H × List MemPlace} (h : DataW.trod enc Tryz.prog W 0 (fun _ => true) true n 47 [v] = some x) : ∃ l, ArgOps W v l := by
  have hC : Tryz.prog.cellsOf 60 = 9 := by kernel_rfl
  rcases open_slice_elems Tryz.underlying47 h with hcs | ⟨a, len, cap, hcs, hl, hm, hf⟩
  · cases hcs
    exact ⟨[], ⟨RdAt.nil W 9, fun _ h => by cases h⟩, Nat.zero_le _, fun _ h => by cases h⟩
  · cases hcs
    rw [hC] at hf
    have hone : ∀ i, i < len → ∃ o : SOp, (∀ j, j < 9 → W.cell? (a.add (i * 9 + j)) = (opC o)[j]?) ∧ OpAt W o ∧ o.s.c < 4294967296 := by
      intro i hi
      obtain ⟨es, n, y, hlen, hat, ht⟩ := hf i hi
      match es, hlen with
      | [e0, e1, e2, e3, e4, e5, e6, e7, e8], _ =>
        obtain ⟨o, he, h1, h2⟩ := op_of_trod ht
        simp only [Value.agg.injEq] at he
        have he' : [e0, e1, e2, e3, e4, e5, e6, e7, e8] = opC o := congrArg Array.toList he
        exact ⟨o, fun j hj => by rw [hat j hj, he'], h1, h2⟩
    have hg : ∃ g : Nat → SOp, ∀ i, i < len → (∀ j, j < 9 → W.cell? (a.add (i * 9 + j)) = (opC (g i))[j]?) ∧ OpAt W (g i) ∧ (g i).s.c < 4294967296 :=
      ⟨fun i => if h : i < len then Classical.choose (hone i h) else ⟨0, 0, 0, 0, ⟨0, (none, 0, 0), [], 0, 0, 0, 0⟩⟩, fun i h => by have := Classical.choose_spec (hone i h); simpa only [dif_pos h] using this⟩
    obtain ⟨g, hg⟩ := hg
    have hgl : ((List.range len).map g).length = len := by simp
    refine ⟨(List.range len).map g, ⟨⟨opCells_len _, .inr ⟨a, cap, by rw [hgl], by omega, fun hn => ?_⟩⟩, fun s hs => ?_⟩, by rw [hgl]; omega, fun s hs => ?_⟩
    · rw [hgl] at hn
      obtain ⟨b, o, rfl, hlt, hcell⟩ := row_cells (f := fun i => opC (g i)) (size := 9) (by decide) (fun _ _ => rfl) (fun i hi => (hg i hi).1) hn
      refine ⟨b, o, rfl, hlt, fun j x hj => ?_⟩
      have hjl := (List.getElem?_eq_some_iff.1 hj).1
      rw [opCells_len, hgl] at hjl
      obtain ⟨m, r, hr9, rfl⟩ : ∃ m r, r < 9 ∧ j = m * 9 + r := ⟨j / 9, j % 9, Nat.mod_lt _ (by decide), by omega⟩
      have hm' : m < len := by omega
      obtain ⟨z, hz⟩ : ∃ z, (opC (g m))[r]? = some z := ⟨_, List.getElem?_eq_getElem (by exact hr9)⟩
      have := opCells_at ((List.range len).map g) m (by rw [hgl]; omega) r z (by simpa using hz)
      rw [this] at hj
      exact hcell m hm' r x (hz.trans hj)
    · obtain ⟨i, hi, rfl⟩ := List.mem_map.1 hs
      exact (hg i (List.mem_range.1 hi)).2.1
    · obtain ⟨i, hi, rfl⟩ := List.mem_map.1 hs
      exact (hg i (List.mem_range.1 hi)).2.2
set_option maxRecDepth 100000 in
theorem ops_of_arg {H : Type} {enc : TypeId × Value → H} {W : World} {base : Nat} {v : Value} {d : DataW H} {p : List MemPlace} (hval : Value.okWide Tryz.prog W .any base 47 v) (h : DataW.Trod enc Tryz.prog W 0 (fun _ => true) true 47 v d p) : ∃ l, ArgOps W v l := by
  obtain ⟨a0, len, cap, rfl⟩ := okWide_slice Tryz.underlying47 hval
  obtain ⟨fuel, hf⟩ := h
  exact ops_of_trod hf
end Go.Proofs.YtcfococinllcmaaGreat

/- slices.IndexFunc, slices.DeleteFunc of numbers, with Quiet's closure: contracts. -/
namespace Go.Proofs.YtcfococinllcmaaGreat
open Go.RowKit

theorem int_range {w : World} {g o : Nat} {Y : List Int} (h : w.rangeAt g o (Y.map I)) {j : Nat} (hj : j < Y.length) : w.cell? ⟨g, o + j, none⟩ = some (.int .i64 Y[j]) :=
  h j _ (by rw [List.getElem?_map, List.getElem?_eq_getElem hj]; rfl)
set_option maxHeartbeats 1600000 in
set_option maxRecDepth 100000 in
theorem idxS_any (l : List Int) (p : Int → Bool) (p1 p2 p3 p4 : Value) (v : Value) (w : World) (hv : IntsAt w v l) (hl : l.length ≤ 1000000)
    (hp : ∀ W, Below w.heap.size w W → ∀ x ∈ l, Calls Tryz.prog 65 #[.int .i64 x, p1, p2, p3, p4] W fun e w' => e = .returned (.bool (p x)) ∧ Below W.heap.size W w') :
    Calls Tryz.prog 92 #[v, .func (.func 65) #[] #[p1, p2, p3, p4]] w fun e w' =>
      ∃ i : Int, e = .returned (.int .i64 i) ∧ ((i = -1 ∧ ∀ x ∈ l, p x = false) ∨ ∃ (k : Nat) (h : k < l.length), i = k ∧ p l[k] = true ∧ ∀ x ∈ l.take k, p x = false) ∧ Below w.heap.size w w' := by
  have hent := enters_of Tryz.func65 (by kernel_rfl) rfl
  obtain ⟨a, c, rfl, hc, hr⟩ := RdAt.shape hv
  have HC : Hid (∀ j (hj : j < l.length), ∃ b o, a = some ⟨b, o, none⟩ ∧ b < w.heap.size ∧ w.cell? ⟨b, o + j, none⟩ = some (.int .i64 l[j])) := Lib.hid (fun j hj => by
    obtain ⟨b, o, rfl, hlt, hcell⟩ := hr (by omega)
    exact ⟨b, o, rfl, hlt, hcell j _ (by rw [List.getElem?_map, List.getElem?_eq_getElem hj]; rfl)⟩)
  have HP := Lib.hid hp
  clear hv hr hp
  go_enter Tryz.func92, Tryz.ntmps92
  go_wp2
  go_loopw [8] (fun vi wr => ∃ j : Nat, j ≤ l.length ∧ vi = .int .i64 j ∧ Hid (∀ k ∈ l.take j, p k = false) ∧ Hid (Below w.heap.size w wr)) (fun vi _ => l.length - (intOf vi).toNat)
  case atStart => exact ⟨0, Nat.zero_le _, rfl, Lib.hid (fun k hk => by simp at hk), Lib.hid (Below.refl _ _)⟩
  case round =>
    obtain ⟨j, hj, rfl, HN, HB⟩ := hrel
    by_cases hjl : j < l.length
    · obtain ⟨b, o, rfl, hblt, hc0⟩ := HC.out j hjl
      obtain ⟨k, hk⟩ : ∃ k, l[j] = k := ⟨_, rfl⟩
      rw [hk] at hc0
      have d1 := keep_cell hc0 HB.out hblt
      have hcall := HP.out wr HB.out k (hk ▸ List.getElem_mem hjl)
      have HK := Lib.hid hk
      obtain ⟨q, hq⟩ : ∃ q, p k = q := ⟨_, rfl⟩
      rw [hq] at hcall
      have HQ := Lib.hid hq
      clear hc0 hk hq
      go_wp2_with fail
      refine hcall.mono ?_
      rintro e w2 ⟨rfl, hb2⟩
      have HB3 := Lib.hid (HB.out.trans (hb2.mono HB.out.size))
      clear hcall hb2
      cases q with
      | true =>
        go_wp2
        go_ret
        exact ⟨j, rfl, .inr ⟨j, hjl, rfl, by rw [HK.out]; exact HQ.out, HN.out⟩, HB3.out⟩
      | false =>
        have HN2 : Hid (∀ k ∈ l.take (j + 1), p k = false) := Lib.hid (fun q hq => by
          rw [List.take_succ_eq_append_getElem hjl] at hq
          rcases List.mem_append.1 hq with h1 | h1
          · exact HN.out q h1
          · rw [List.mem_singleton.1 h1, HK.out]; exact HQ.out)
        go_wp2
        go_roundw
        case rel => exact ⟨j + 1, by omega, by go_num, HN2, HB3⟩
        case measure => (simp [intOf]; try omega)
    · obtain rfl : j = l.length := by omega
      go_wp2
      go_ret
      exact ⟨-1, rfl, .inl ⟨rfl, fun x hx => HN.out x (by rw [List.take_length]; exact hx)⟩, HB.out⟩
theorem filterI_step {p : Int → Bool} {l : List Int} {j : Nat} (h : j < l.length) : (l.take (j + 1)).filter (fun x => !p x) = (l.take j).filter (fun x => !p x) ++ (if p l[j] then [] else [l[j]]) := by
  rw [List.take_succ_eq_append_getElem h, List.filter_append]
  congr 1
  cases hp : p l[j] <;> simp [hp]
theorem zcI_len (n : Nat) : (Builtin.zeroCells (Value.int .i64 0).cells n).toList.length = n := by simp [Builtin.zeroCells, Value.cells]
theorem zcI_cell (n : Nat) : ∀ v ∈ (Builtin.zeroCells (Value.int .i64 0).cells n).toList, v.oneCell' = true := by
  intro v hv
  simp only [Builtin.zeroCells, Value.cells, Array.toList_map, List.mem_map] at hv
  obtain ⟨i, _, rfl⟩ := hv
  have h2 : i % (#[Value.int .i64 0] : Array Value).size < 1 := Nat.mod_lt _ (by decide)
  generalize i % (#[Value.int .i64 0] : Array Value).size = j at h2
  match j, h2 with
  | 0, _ => rfl
theorem rowI_put {w : World} {g n i : Nat} {Y : List Int} {x : Int} (h : w.rangeAt g 0 (Y.map I)) (ht : w.there g 0 n) (hn : Y.length = n) (hi : i < n) :
    (w.setCell ⟨g, i, none⟩ (.int .i64 x)).rangeAt g 0 ((Y.set i x).map I) ∧ (w.setCell ⟨g, i, none⟩ (.int .i64 x)).there g 0 n := by
  refine ⟨fun j v hj => ?_, there_set ht g i _⟩
  rw [Nat.zero_add]
  rw [List.getElem?_map] at hj
  by_cases hm : j = i
  · subst hm
    rw [List.getElem?_set_self (by omega)] at hj
    have hs := (ht j hi).1
    rw [Nat.zero_add] at hs
    rw [World.cell?_setCell_same' _ _ _ hs, ← hj]; rfl
  · rw [List.getElem?_set_ne (fun e => hm e.symm)] at hj
    rw [set_far (by omega)]
    have := h j v (by rw [List.getElem?_map]; exact hj)
    rwa [Nat.zero_add] at this
set_option maxHeartbeats 1600000 in
set_option maxRecDepth 100000 in
theorem delS_any (l : List Int) (p : Int → Bool) (p1 p2 p3 p4 : Value) (base : Nat) (v : Value) (w : World) (hown : w.ownsRow base 3 1 v l.length (l.map I)) (hbase : base ≤ w.heap.size) (hl : l.length ≤ 1000000)
    (hp : ∀ W, Below base w W → ∀ x ∈ l, Calls Tryz.prog 65 #[.int .i64 x, p1, p2, p3, p4] W fun e w' => e = .returned (.bool (p x)) ∧ Below W.heap.size W w') :
    Calls Tryz.prog 64 #[v, .func (.func 65) #[] #[p1, p2, p3, p4]] w fun e w' =>
      ∃ v', e = .returned v' ∧ IntsAt w' v' (l.filter fun x => !p x) ∧ Below base w w' := by
  have hent := enters_of Tryz.func65 (by kernel_rfl) rfl
  have hv : IntsAt w v l := RdAt.own hown
  have k1 := idxS_any l p p1 p2 p3 p4 v w hv hl (fun W hW x hx => hp W (hW.mono hbase) x hx)
  rcases hown.2 with ⟨rfl, h0⟩ | ⟨g, cap, cur, rfl, hgb, hg, hle, hcap, hsz, htk⟩
  · have hnil : l = [] := List.length_eq_zero_iff.1 h0
    subst hnil
    clear hown hp hv
    go_enter Tryz.func64, Tryz.ntmps64
    go_wp2_with fail
    refine k1.mono ?_
    rintro e w1 ⟨i, rfl, hi, hb1⟩
    rcases hi with ⟨rfl, _⟩ | ⟨k, hk, _⟩
    · clear k1
      have HB1 := Lib.hid (hb1.mono hbase)
      clear hb1
      go_wp2
      go_ret
      exact ⟨_, rfl, RdAt.nil _ _, HB1.out⟩
    · exact absurd hk (Nat.not_lt_zero _)
  · have hr0 : w.rangeAt g 0 (l.map I) := by
      intro j x hj
      obtain ⟨a, c, he, _, hr⟩ := RdAt.shape hv
      have hjl := (List.getElem?_eq_some_iff.1 hj).1
      rw [List.length_map] at hjl
      obtain ⟨b, o, hb, _, hcell⟩ := hr (by omega)
      cases he
      cases hb
      exact hcell j x hj
    have ht0 : w.there g 0 l.length := fun j hj => by
      refine ⟨World.rangeAt.isSome hr0 j (by rw [List.length_map]; exact hj), by simp [World.frozen?, hg]⟩
    have hglt : g < w.heap.size := (Array.getElem?_eq_some_iff.1 hg).1
    have HP := Lib.hid hp
    have HR0 := Lib.hid hr0
    have HTH0 := Lib.hid ht0
    have HV := Lib.hid hv
    clear hv hown hp hr0 ht0 hg htk hsz
    go_enter Tryz.func64, Tryz.ntmps64
    go_wp2_with fail
    refine k1.mono ?_
    rintro e w1 ⟨i, rfl, hi, hb1⟩
    have HR1 := Lib.hid (range_later HR0.out hb1 hglt)
    have HTH1 := Lib.hid (there_later HTH0.out hb1 hglt)
    have HB1 := Lib.hid (hb1.mono hbase)
    have HV1 := Lib.hid (HV.out.later hb1)
    clear k1 HR0 HTH0 hb1 HV
    rcases hi with ⟨rfl, hno⟩ | ⟨k, hk, rfl, hpk, hpn⟩
    · have HN : Hid (l.filter (fun x => !p x) = l) := Lib.hid (List.filter_eq_self.2 (fun x hx => by rw [hno x hx]; rfl))
      clear hno
      go_wp2
      go_ret
      exact ⟨_, rfl, by rw [HN.out]; exact HV1.out, HB1.out⟩
    · have hT1 : (l.take k).filter (fun x => !p x) = l.take k := List.filter_eq_self.2 (fun x hx => by rw [hpn x hx]; rfl)
      have HT2 : Hid (l.take k = (l.take (k + 1)).filter (fun x => !p x)) := Lib.hid (by rw [filterI_step hk, hT1, hpk]; simp)
      have hk1 : ((k : Int) == -1) = false := by rw [beq_eq_false_iff_ne]; omega
      clear hT1 hpk hpn HV1
      go_wp2
      go_loopw [5, 6] (fun vi vj wr => ∃ (i j : Nat) (Y : List Int), vi = .int .i64 i ∧ vj = .int .i64 j ∧ i < j ∧ j ≤ l.length ∧ Hid (Y.length = l.length) ∧ Hid (Y.take i = (l.take j).filter (fun x => !p x)) ∧ Hid (Y.drop j = l.drop j) ∧ Hid (wr.rangeAt g 0 (Y.map I)) ∧ Hid (wr.there g 0 l.length) ∧ Hid (Below base w wr))
        (fun _ vj _ => l.length - (intOf vj).toNat)
      case atStart => exact ⟨k, k + 1, l, rfl, by go_num, by omega, by omega, Lib.hid rfl, HT2, Lib.hid rfl, HR1, HTH1, HB1⟩
      case round =>
        clear HR1 HTH1 HB1 HT2
        obtain ⟨i, j, Y, rfl, rfl, hij, hjl, HY, HT, HD, HR, HTH, HB⟩ := hrel
        have hgr : g < wr.heap.size := Nat.lt_of_lt_of_le hglt HB.out.size
        by_cases hjj : j < l.length
        · have hYj : Y[j]'(by have := HY.out; omega) = l[j] := by
            have h := congrArg (fun z => z[0]?) HD.out
            simp only [List.getElem?_drop, Nat.add_zero] at h
            rw [List.getElem?_eq_getElem hjj, List.getElem?_eq_getElem (by have := HY.out; omega)] at h
            exact Option.some.inj h
          have hc0 := int_range HR.out (j := j) (by have := HY.out; omega)
          rw [hYj, Nat.zero_add] at hc0
          obtain ⟨x, hx⟩ : ∃ x, l[j] = x := ⟨_, rfl⟩
          have hxm : x ∈ l := hx ▸ List.getElem_mem hjj
          rw [hx] at hc0
          have HX := Lib.hid hx
          have kp := HP.out wr HB.out x hxm
          obtain ⟨q, hq⟩ : ∃ q, p x = q := ⟨_, rfl⟩
          rw [hq] at kp
          have HQ := Lib.hid hq
          clear hq hx hYj hxm
          go_wp2_with fail
          refine kp.mono ?_
          rintro e w2 ⟨rfl, hb2⟩
          have HB2 := Lib.hid (HB.out.trans (hb2.mono (Nat.le_trans hbase HB.out.size)))
          have HR2 := Lib.hid (range_later HR.out hb2 hgr)
          have HT2 := Lib.hid (there_later HTH.out hb2 hgr)
          have HD2 : Hid (Y.drop (j + 1) = l.drop (j + 1)) := by
            show _ = _
            have h := congrArg (List.drop 1) HD.out
            rw [List.drop_drop, List.drop_drop] at h
            first | exact h | (rw [Nat.add_comm j 1]; exact h)
          cases q
          · have c0 := int_range HR2.out (j := i) (by have := HY.out; omega)
            rw [Nat.zero_add] at c0
            have f0 := there_free HT2.out i (by omega)
            clear kp hb2 HR HTH HB hc0
            go_wp2
            go_roundw
            case rel =>
              have hYi : i < Y.length := by have := HY.out; omega
              have hlen : (Y.take i).length = i := by rw [List.length_take]; omega
              refine ⟨i + 1, j + 1, Y.set i x, by go_num, by go_num, by omega, by omega, Lib.hid (by rw [List.length_set]; exact HY.out), Lib.hid ?_, Lib.hid ?_, Lib.hid ?_, Lib.hid ?_, Lib.hid ?_⟩
              · rw [filterI_step hjj, HX.out, HQ.out, ← HT.out]
                simp only [Bool.false_eq_true, if_false]
                apply List.ext_getElem?
                intro m
                rcases Nat.lt_trichotomy m i with hm | hm | hm
                · rw [List.getElem?_take_of_lt (by omega), List.getElem?_set_ne (by omega), List.getElem?_append_left (by omega), List.getElem?_take_of_lt hm]
                · subst hm
                  rw [List.getElem?_take_of_lt (by omega), List.getElem?_set_self hYi, List.getElem?_append_right (by omega), hlen]; simp
                · rw [List.getElem?_take_eq_none (by omega), List.getElem?_eq_none (by simp; omega)]
              · apply List.ext_getElem?
                intro m
                have h := congrArg (fun z => z[m]?) HD2.out
                simp only [List.getElem?_drop] at h ⊢
                rw [List.getElem?_set_ne (by omega)]
                exact h
              · exact (rowI_put HR2.out HT2.out HY.out (by omega)).1
              · exact (rowI_put HR2.out HT2.out HY.out (by omega)).2
              · exact below_put_base HB2.out hgb
            case measure => (simp [intOf]; try omega)
          · clear kp hb2 HR HTH HB hc0
            go_wp2
            go_roundw
            case rel => exact ⟨i, j + 1, Y, rfl, by go_num, by omega, by omega, HY, Lib.hid (by rw [HT.out, filterI_step hjj, HX.out, HQ.out]; simp), HD2, HR2, HT2, HB2⟩
            case measure => (simp [intOf]; try omega)
        · obtain rfl : j = l.length := by omega
          have hcl : ∀ ty, (Builtin.clear_ #[32] ty #[.slice (some ⟨g, i, none⟩) (l.length - i) (cap - i)]).run Tryz.prog wr = .ok (.tuple #[]) (wr.setCells g i (Builtin.zeroCells (Value.int .i64 0).cells (l.length - i)).toList) := fun ty =>
            run_clear_row wr 32 3 ty _ Tryz.underlying32 Tryz.zeroValue3 g i (l.length - i) (cap - i) (by omega) (fun j hj => by
              have := HTH.out (i + j) (by rw [zcI_len] at hj; omega)
              rw [Nat.zero_add] at this
              exact this) (zcI_cell _)
          have HZ := Lib.hid (zcI_len (l.length - i))
          generalize hzc : (Builtin.zeroCells (Value.int .i64 0).cells (l.length - i)).toList = zc at *
          go_wp2
          go_ret
          have hYl : (Y.take i).length = i := by rw [List.length_take, HY.out]; omega
          have hFl : l.filter (fun x => !p x) = Y.take i := by have := HT.out; rw [List.take_length] at this; exact this.symm
          refine ⟨_, rfl, ?_, below_puts_base HB.out hgb _⟩
          rw [hFl]
          unfold IntsAt
          rw [hYl]
          refine RdAt.mk (by rw [List.length_map, hYl]; omega) (by omega) ?_ (fun m y hm => ?_)
          · have := (below_puts_base (o := i) HB.out hgb zc).size; omega
          · have hml := (List.getElem?_eq_some_iff.1 hm).1
            rw [List.length_map, hYl] at hml
            rw [World.cell?_setCells_out _ _ _ _ _ (fun _ _ => by simp; omega)]
            have := HR.out m y (by rw [List.getElem?_map] at hm ⊢; rw [List.getElem?_take_of_lt (by omega)] at hm; exact hm)
            exact this
end Go.Proofs.YtcfococinllcmaaGreat

/- silences: slices.DeleteFunc at []int with Quiet's closure: where its result lies. -/
namespace Go.Proofs.YtcfococinllcmaaGreat
open Go.RowKit Go.Maps

set_option maxHeartbeats 1600000 in
set_option maxRecDepth 100000 in
theorem delS_own (l : List Int) (p : Int → Bool) (p1 p2 p3 p4 : Value) (base : Nat) (v : Value) (w : World) (hown : w.ownsRow base 3 1 v l.length (l.map I)) (hbase : base ≤ w.heap.size) (hl : l.length ≤ 1000000)
    (hp : ∀ W, Below base w W → ∀ x ∈ l, Calls Tryz.prog 65 #[.int .i64 x, p1, p2, p3, p4] W fun e w' => e = .returned (.bool (p x)) ∧ Below W.heap.size W w') :
    Calls Tryz.prog 64 #[v, .func (.func 65) #[] #[p1, p2, p3, p4]] w fun e w' =>
      ∃ v', e = .returned v' ∧ IntsAt w' v' (l.filter fun x => !p x) ∧ Below base w w' ∧ ∀ q, v'.ownBlock = some q → base ≤ q := by
  have hent := enters_of Tryz.func65 (by kernel_rfl) rfl
  have hv : IntsAt w v l := RdAt.own hown
  have k1 := idxS_any l p p1 p2 p3 p4 v w hv hl (fun W hW x hx => hp W (hW.mono hbase) x hx)
  rcases hown.2 with ⟨rfl, h0⟩ | ⟨g, cap, cur, rfl, hgb, hg, hle, hcap, hsz, htk⟩
  · have hnil : l = [] := List.length_eq_zero_iff.1 h0
    subst hnil
    clear hown hp hv
    go_enter Tryz.func64, Tryz.ntmps64
    go_wp2_with fail
    refine k1.mono ?_
    rintro e w1 ⟨i, rfl, hi, hb1⟩
    rcases hi with ⟨rfl, _⟩ | ⟨k, hk, _⟩
    · clear k1
      have HB1 := Lib.hid (hb1.mono hbase)
      clear hb1
      go_wp2
      go_ret
      exact ⟨_, rfl, RdAt.nil _ _, HB1.out, fun q hq => by cases hq⟩
    · exact absurd hk (Nat.not_lt_zero _)
  · have hr0 : w.rangeAt g 0 (l.map I) := by
      intro j x hj
      obtain ⟨a, c, he, _, hr⟩ := RdAt.shape hv
      have hjl := (List.getElem?_eq_some_iff.1 hj).1
      rw [List.length_map] at hjl
      obtain ⟨b, o, hb, _, hcell⟩ := hr (by omega)
      cases he
      cases hb
      exact hcell j x hj
    have ht0 : w.there g 0 l.length := fun j hj => by
      refine ⟨World.rangeAt.isSome hr0 j (by rw [List.length_map]; exact hj), by simp [World.frozen?, hg]⟩
    have hglt : g < w.heap.size := (Array.getElem?_eq_some_iff.1 hg).1
    have HP := Lib.hid hp
    have HR0 := Lib.hid hr0
    have HTH0 := Lib.hid ht0
    have HV := Lib.hid hv
    clear hv hown hp hr0 ht0 hg htk hsz
    go_enter Tryz.func64, Tryz.ntmps64
    go_wp2_with fail
    refine k1.mono ?_
    rintro e w1 ⟨i, rfl, hi, hb1⟩
    have HR1 := Lib.hid (range_later HR0.out hb1 hglt)
    have HTH1 := Lib.hid (there_later HTH0.out hb1 hglt)
    have HB1 := Lib.hid (hb1.mono hbase)
    have HV1 := Lib.hid (HV.out.later hb1)
    clear k1 HR0 HTH0 hb1 HV
    rcases hi with ⟨rfl, hno⟩ | ⟨k, hk, rfl, hpk, hpn⟩
    · have HN : Hid (l.filter (fun x => !p x) = l) := Lib.hid (List.filter_eq_self.2 (fun x hx => by rw [hno x hx]; rfl))
      clear hno
      go_wp2
      go_ret
      exact ⟨_, rfl, by rw [HN.out]; exact HV1.out, HB1.out, fun q hq => by cases hq; exact hgb⟩
    · have hT1 : (l.take k).filter (fun x => !p x) = l.take k := List.filter_eq_self.2 (fun x hx => by rw [hpn x hx]; rfl)
      have HT2 : Hid (l.take k = (l.take (k + 1)).filter (fun x => !p x)) := Lib.hid (by rw [filterI_step hk, hT1, hpk]; simp)
      have hk1 : ((k : Int) == -1) = false := by rw [beq_eq_false_iff_ne]; omega
      clear hT1 hpk hpn HV1
      go_wp2
      go_loopw [5, 6] (fun vi vj wr => ∃ (i j : Nat) (Y : List Int), vi = .int .i64 i ∧ vj = .int .i64 j ∧ i < j ∧ j ≤ l.length ∧ Hid (Y.length = l.length) ∧ Hid (Y.take i = (l.take j).filter (fun x => !p x)) ∧ Hid (Y.drop j = l.drop j) ∧ Hid (wr.rangeAt g 0 (Y.map I)) ∧ Hid (wr.there g 0 l.length) ∧ Hid (Below base w wr))
        (fun _ vj _ => l.length - (intOf vj).toNat)
      case atStart => exact ⟨k, k + 1, l, rfl, by go_num, by omega, by omega, Lib.hid rfl, HT2, Lib.hid rfl, HR1, HTH1, HB1⟩
      case round =>
        clear HR1 HTH1 HB1 HT2
        obtain ⟨i, j, Y, rfl, rfl, hij, hjl, HY, HT, HD, HR, HTH, HB⟩ := hrel
        have hgr : g < wr.heap.size := Nat.lt_of_lt_of_le hglt HB.out.size
        by_cases hjj : j < l.length
        · have hYj : Y[j]'(by have := HY.out; omega) = l[j] := by
            have h := congrArg (fun z => z[0]?) HD.out
            simp only [List.getElem?_drop, Nat.add_zero] at h
            rw [List.getElem?_eq_getElem hjj, List.getElem?_eq_getElem (by have := HY.out; omega)] at h
            exact Option.some.inj h
          have hc0 := int_range HR.out (j := j) (by have := HY.out; omega)
          rw [hYj, Nat.zero_add] at hc0
          obtain ⟨x, hx⟩ : ∃ x, l[j] = x := ⟨_, rfl⟩
          have hxm : x ∈ l := hx ▸ List.getElem_mem hjj
          rw [hx] at hc0
          have HX := Lib.hid hx
          have kp := HP.out wr HB.out x hxm
          obtain ⟨q, hq⟩ : ∃ q, p x = q := ⟨_, rfl⟩
          rw [hq] at kp
          have HQ := Lib.hid hq
          clear hq hx hYj hxm
          go_wp2_with fail
          refine kp.mono ?_
          rintro e w2 ⟨rfl, hb2⟩
          have HB2 := Lib.hid (HB.out.trans (hb2.mono (Nat.le_trans hbase HB.out.size)))
          have HR2 := Lib.hid (range_later HR.out hb2 hgr)
          have HT2 := Lib.hid (there_later HTH.out hb2 hgr)
          have HD2 : Hid (Y.drop (j + 1) = l.drop (j + 1)) := by
            show _ = _
            have h := congrArg (List.drop 1) HD.out
            rw [List.drop_drop, List.drop_drop] at h
            first | exact h | (rw [Nat.add_comm j 1]; exact h)
          cases q
          · have c0 := int_range HR2.out (j := i) (by have := HY.out; omega)
            rw [Nat.zero_add] at c0
            have f0 := there_free HT2.out i (by omega)
            clear kp hb2 HR HTH HB hc0
            go_wp2
            go_roundw
            case rel =>
              have hYi : i < Y.length := by have := HY.out; omega
              have hlen : (Y.take i).length = i := by rw [List.length_take]; omega
              refine ⟨i + 1, j + 1, Y.set i x, by go_num, by go_num, by omega, by omega, Lib.hid (by rw [List.length_set]; exact HY.out), Lib.hid ?_, Lib.hid ?_, Lib.hid ?_, Lib.hid ?_, Lib.hid ?_⟩
              · rw [filterI_step hjj, HX.out, HQ.out, ← HT.out]
                simp only [Bool.false_eq_true, if_false]
                apply List.ext_getElem?
                intro m
                rcases Nat.lt_trichotomy m i with hm | hm | hm
                · rw [List.getElem?_take_of_lt (by omega), List.getElem?_set_ne (by omega), List.getElem?_append_left (by omega), List.getElem?_take_of_lt hm]
                · subst hm
                  rw [List.getElem?_take_of_lt (by omega), List.getElem?_set_self hYi, List.getElem?_append_right (by omega), hlen]; simp
                · rw [List.getElem?_take_eq_none (by omega), List.getElem?_eq_none (by simp; omega)]
              · apply List.ext_getElem?
                intro m
                have h := congrArg (fun z => z[m]?) HD2.out
                simp only [List.getElem?_drop] at h ⊢
                rw [List.getElem?_set_ne (by omega)]
                exact h
              · exact (rowI_put HR2.out HT2.out HY.out (by omega)).1
              · exact (rowI_put HR2.out HT2.out HY.out (by omega)).2
              · exact below_put_base HB2.out hgb
            case measure => (simp [intOf]; try omega)
          · clear kp hb2 HR HTH HB hc0
            go_wp2
            go_roundw
            case rel => exact ⟨i, j + 1, Y, rfl, by go_num, by omega, by omega, HY, Lib.hid (by rw [HT.out, filterI_step hjj, HX.out, HQ.out]; simp), HD2, HR2, HT2, HB2⟩
            case measure => (simp [intOf]; try omega)
        · obtain rfl : j = l.length := by omega
          have hcl : ∀ ty, (Builtin.clear_ #[32] ty #[.slice (some ⟨g, i, none⟩) (l.length - i) (cap - i)]).run Tryz.prog wr = .ok (.tuple #[]) (wr.setCells g i (Builtin.zeroCells (Value.int .i64 0).cells (l.length - i)).toList) := fun ty =>
            run_clear_row wr 32 3 ty _ Tryz.underlying32 Tryz.zeroValue3 g i (l.length - i) (cap - i) (by omega) (fun j hj => by
              have := HTH.out (i + j) (by rw [zcI_len] at hj; omega)
              rw [Nat.zero_add] at this
              exact this) (zcI_cell _)
          have HZ := Lib.hid (zcI_len (l.length - i))
          generalize hzc : (Builtin.zeroCells (Value.int .i64 0).cells (l.length - i)).toList = zc at *
          go_wp2
          go_ret
          have hYl : (Y.take i).length = i := by rw [List.length_take, HY.out]; omega
          have hFl : l.filter (fun x => !p x) = Y.take i := by have := HT.out; rw [List.take_length] at this; exact this.symm
          refine ⟨_, rfl, ?_, below_puts_base HB.out hgb _, fun q hq => by cases hq; exact hgb⟩
          rw [hFl]
          unfold IntsAt
          rw [hYl]
          refine RdAt.mk (by rw [List.length_map, hYl]; omega) (by omega) ?_ (fun m y hm => ?_)
          · have := (below_puts_base (o := i) HB.out hgb zc).size; omega
          · have hml := (List.getElem?_eq_some_iff.1 hm).1
            rw [List.length_map, hYl] at hml
            rw [World.cell?_setCells_out _ _ _ _ _ (fun _ _ => by simp; omega)]
            have := HR.out m y (by rw [List.getElem?_map] at hm ⊢; rw [List.getElem?_take_of_lt (by omega)] at hm; exact hm)
            exact this
end Go.Proofs.YtcfococinllcmaaGreat

/- silences: Quiet. -/
namespace Go.Proofs.YtcfococinllcmaaGreat
open Go.RowKit Go.Maps

/-- does a silence keep fields quiet for a label? -/
noncomputable def quietS (fl : List Fld) (t : Int × Nat) (now : Int) (s : Sil) : Bool := flowsL s.lv s.c t.1 t.2 && decide (s.fr ≤ now) && decide (now < s.til) && allM fl s.ms
/-- what Quiet's closure has captured -/
structure QAt (w : World) (b1 b2 b3 b4 lp : Nat) (t : Int × Nat) (now : Int) (fl : List Fld) (fv : Value) : Prop where
  c1 : w.cell? ⟨b1, 0, none⟩ = some (.pointer (some ⟨lp, 0, none⟩))
  c2 : w.cell? ⟨b2, 0, none⟩ = some (.int .i64 t.1)
  c3 : w.cell? ⟨b2, 1, none⟩ = some (.int .u32 t.2)
  c4 : w.cell? ⟨b3, 0, none⟩ = some (.int .i64 now)
  c5 : w.cell? ⟨b4, 1, none⟩ = some fv
  fl : FldsAt w fv fl
theorem QAt.later {w w' : World} {b1 b2 b3 b4 lp : Nat} {t : Int × Nat} {now : Int} {fl : List Fld} {fv : Value} (h : QAt w b1 b2 b3 b4 lp t now fl fv) (hb : Below w.heap.size w w') : QAt w' b1 b2 b3 b4 lp t now fl fv :=
  ⟨keep_cell h.c1 hb (cell_lt h.c1), keep_cell h.c2 hb (cell_lt h.c2), keep_cell h.c3 hb (cell_lt h.c3), keep_cell h.c4 hb (cell_lt h.c4), keep_cell h.c5 hb (cell_lt h.c5), h.fl.later hb⟩
set_option maxHeartbeats 3200000 in
set_option maxRecDepth 100000 in
theorem qclos (b1 b2 b3 b4 lp m n : Nat) (t : Int × Nat) (now : Int) (fl : List Fld) (fv : Value) (S : List Sil) (last : Int) (s : Sil) (w : World) (h : SlAt w lp m n S last) (hs : s ∈ S) (hq : QAt w b1 b2 b3 b4 lp t now fl fv) (hl : fl.length ≤ 1000000000000) (hfit : FldsFit fl) :
    Calls Tryz.prog 65 #[.int .i64 s.id, .pointer (some ⟨b1, 0, none⟩), .pointer (some ⟨b2, 0, none⟩), .pointer (some ⟨b3, 0, none⟩), .pointer (some ⟨b4, 0, none⟩)] w fun e w' => e = .returned (.bool (!(quietS fl t now s))) ∧ Below w.heap.size w w' := by
  have hr := (look_some h hs).2
  unfold Sil.v at hr
  have l0 := h.h0
  have hb := alloc_below w (.cells #[.slice s.mv.1 s.mv.2.1 s.mv.2.2, .int .i64 s.fr, .int .i64 s.til, .int .i64 s.lv, .int .u32 s.c] 67)
  have x := alc5 w (.slice s.mv.1 s.mv.2.1 s.mv.2.2) (.int .i64 s.fr) (.int .i64 s.til) (.int .i64 s.lv) (.int .u32 s.c) 67
  obtain ⟨W1, hW1⟩ : ∃ z, w.alloc (.cells #[.slice s.mv.1 s.mv.2.1 s.mv.2.2, .int .i64 s.fr, .int .i64 s.til, .int .i64 s.lv, .int .u32 s.c] 67) = z := ⟨_, rfl⟩
  rw [hW1] at hb x
  obtain ⟨m1, m2, m3, _⟩ := h.ms s hs
  have hq0 := hq.c1
  have HQ1 := Lib.hid (hq.later hb)
  have HX1 := Lib.hid x
  have HB1 := Lib.hid hb
  have k1 := flows_any s.lv s.c t.1 t.2 W1
  have k2 := fun W (hW : Below w.heap.size w W) => all_any fl s.ms fv (SV s.mv) W (hq.fl.later hW) hl hfit (m1.later hW) (by omega) m2
  unfold SV at k2
  have HE : Hid ((!(quietS fl t now s)) = !(flowsL s.lv s.c t.1 t.2 && decide (s.fr ≤ now) && decide (now < s.til) && allM fl s.ms)) := Lib.hid rfl
  generalize quietS fl t now s = R at *
  generalize allM fl s.ms = AL at *
  generalize flowsL s.lv s.c t.1 t.2 = FL at *
  have K2 := Lib.hid k2
  obtain ⟨fa, fc, rfl, _, _⟩ := RdAt.shape hq.fl
  generalize fl.length = fn at *
  clear h hs hq hfit hb x m1 m2 m3 k2
  go_enter Tryz.func65, Tryz.ntmps65
  go_upto_region 2 with fail
  clear hW1 hr l0 hq0
  obtain ⟨x0, x1, x2, x3, x4⟩ := HX1.out
  obtain ⟨q1, q2, q3, q4, q5, _⟩ := HQ1.out
  go_wp2_with fail
  refine k1.mono ?_
  rintro e w2 ⟨rfl, hb2⟩
  have HX2 := Lib.hid (HX1.out.later hb2)
  have HQ2 := Lib.hid (HQ1.out.later hb2)
  have HB2 := Lib.hid (HB1.out.trans (hb2.mono HB1.out.size))
  clear k1 hb2 HX1 HQ1 HB1 x0 x1 x2 x3 x4 q1 q2 q3 q4 q5
  obtain ⟨x0, x1, x2, x3, x4⟩ := HX2.out
  obtain ⟨q1, q2, q3, q4, q5, _⟩ := HQ2.out
  cases FL with
  | false =>
    go_wp2
    go_ret
    exact ⟨by rw [HE.out]; rfl, HB2.out⟩
  | true =>
  by_cases h1 : s.fr ≤ now
  case neg =>
    rw [decide_eq_false h1] at HE
    go_wp2
    go_ret
    exact ⟨by rw [HE.out]; rfl, HB2.out⟩
  rw [decide_eq_true h1] at HE
  by_cases h2 : now < s.til
  case neg =>
    rw [decide_eq_false h2] at HE
    go_wp2
    go_ret
    exact ⟨by rw [HE.out]; rfl, HB2.out⟩
  rw [decide_eq_true h2] at HE
  have HD1 : Hid (decide (now < s.fr) = false) := Lib.hid (decide_eq_false (by omega))
  have HD2 : Hid (decide (s.til ≤ now) = false) := Lib.hid (decide_eq_false (by omega))
  have k2 := K2.out w2 HB2.out
  go_wp2_with fail
  refine k2.mono ?_
  rintro e w3 ⟨rfl, hb3⟩
  have HB3 := Lib.hid (HB2.out.trans (hb3.mono HB2.out.size))
  clear k2 hb3
  go_wp2
  go_ret
  refine ⟨?_, HB3.out⟩
  show Ending.returned (.bool (decide (now < s.fr) || decide (s.til ≤ now) || !AL)) = _
  rw [HD1.out, HD2.out, HE.out]
  cases AL <;> rfl
/-- what Quiet's closure says of a number -/
noncomputable def offS (S : List Sil) (fl : List Fld) (t : Int × Nat) (now : Int) (id : Int) : Bool := match S.find? fun s => s.id == id with
  | some s => !(quietS fl t now s)
  | none => true
theorem find_self {S : List Sil} (h : UpS S) {s : Sil} (hs : s ∈ S) : (S.find? fun u => u.id == s.id) = some s := by
  induction S with
  | nil => cases hs
  | cons u S ih =>
    obtain ⟨h1, h2⟩ := List.pairwise_cons.1 h
    rcases List.mem_cons.1 hs with rfl | hs'
    · simp
    · have hne : (u.id == s.id) = false := by rw [beq_eq_false_iff_ne]; have := h1 s hs'; omega
      rw [List.find?_cons, hne]
      exact ih h2 hs'
theorem off_ids {S : List Sil} (h : UpS S) (fl : List Fld) (t : Int × Nat) (now : Int) : (S.map (·.id)).filter (fun x => !(offS S fl t now x)) = (S.filter fun s => quietS fl t now s).map (·.id) := by
  rw [List.filter_map]
  congr 1
  apply List.filter_congr
  intro s hs
  simp only [Function.comp]
  unfold offS
  rw [find_self h hs]
  simp
/-- what keeps an alert quiet -/
noncomputable def quietL (rs : List Nmd) (S : List Sil) (fl : List Fld) (f t : Int × Nat) (now : Int) : List Int :=
  if cutOk rs fl f t = true then (S.filter fun s => quietS (visL rs fl f t) t now s).map (·.id) else []
/-- the boxes of Quiet's parameters -/
structure QuBox (w W : World) (pv : Value) (p0 p1 p2 p3 p4 p5 a0 a1 a2 a3 a4 a5 l0 l1 : Value) (now : Int) : Prop where
  b1 : W.cell? ⟨w.heap.size, 0, none⟩ = some pv
  p : C6 (w.heap.size + 1) p0 p1 p2 p3 p4 p5 W
  a : C6 (w.heap.size + 1 + 1) a0 a1 a2 a3 a4 a5 W
  l0 : W.cell? ⟨w.heap.size + 1 + 1 + 1, 0, none⟩ = some l0
  l1 : W.cell? ⟨w.heap.size + 1 + 1 + 1, 1, none⟩ = some l1
  n : W.cell? ⟨w.heap.size + 1 + 1 + 1 + 1, 0, none⟩ = some (.int .i64 now)
  lt : w.heap.size + 1 + 1 + 1 + 1 < W.heap.size
  below : Below w.heap.size w W
theorem QuBox.later {w W W' : World} {pv : Value} {p0 p1 p2 p3 p4 p5 a0 a1 a2 a3 a4 a5 l0 l1 : Value} {now : Int} (h : QuBox w W pv p0 p1 p2 p3 p4 p5 a0 a1 a2 a3 a4 a5 l0 l1 now) (hb : Below W.heap.size W W') : QuBox w W' pv p0 p1 p2 p3 p4 p5 a0 a1 a2 a3 a4 a5 l0 l1 now := by
  have hl := h.lt
  exact ⟨keep_cell h.b1 hb (by omega), h.p.later hb (by omega), h.a.later hb (by omega), keep_cell h.l0 hb (by omega), keep_cell h.l1 hb (by omega), keep_cell h.n hb (by omega), Nat.lt_of_lt_of_le hl hb.size, h.below.trans (hb.mono h.below.size)⟩
theorem quBox (w : World) (pv : Value) (p0 p1 p2 p3 p4 p5 a0 a1 a2 a3 a4 a5 l0 l1 : Value) (now : Int) (t u s q r : TypeId) :
    QuBox w (((((w.alloc (.cells #[pv] t)).alloc (.cells #[p0, p1, p2, p3, p4, p5] u)).alloc (.cells #[a0, a1, a2, a3, a4, a5] s)).alloc (.cells #[l0, l1] q)).alloc (.cells #[.int .i64 now] r)) pv p0 p1 p2 p3 p4 p5 a0 a1 a2 a3 a4 a5 l0 l1 now := by
  obtain ⟨W1, h1⟩ : ∃ z, w.alloc (.cells #[pv] t) = z := ⟨_, rfl⟩
  obtain ⟨W2, h2⟩ : ∃ z, W1.alloc (.cells #[p0, p1, p2, p3, p4, p5] u) = z := ⟨_, rfl⟩
  obtain ⟨W3, h3⟩ : ∃ z, W2.alloc (.cells #[a0, a1, a2, a3, a4, a5] s) = z := ⟨_, rfl⟩
  obtain ⟨W4, h4⟩ : ∃ z, W3.alloc (.cells #[l0, l1] q) = z := ⟨_, rfl⟩
  obtain ⟨W5, h5⟩ : ∃ z, W4.alloc (.cells #[.int .i64 now] r) = z := ⟨_, rfl⟩
  rw [h1, h2, h3, h4, h5]
  have s1 : W1.heap.size = w.heap.size + 1 := by rw [← h1, World.size_alloc]
  have s2 : W2.heap.size = w.heap.size + 1 + 1 := by rw [← h2, World.size_alloc, s1]
  have s3 : W3.heap.size = w.heap.size + 1 + 1 + 1 := by rw [← h3, World.size_alloc, s2]
  have s4 : W4.heap.size = w.heap.size + 1 + 1 + 1 + 1 := by rw [← h4, World.size_alloc, s3]
  have s5 : W5.heap.size = w.heap.size + 1 + 1 + 1 + 1 + 1 := by rw [← h5, World.size_alloc, s4]
  have b1 : Below w.heap.size w W1 := by rw [← h1]; exact alloc_below _ _
  have b2 : Below W1.heap.size W1 W2 := by rw [← h2]; exact alloc_below _ _
  have b3 : Below W2.heap.size W2 W3 := by rw [← h3]; exact alloc_below _ _
  have b4 : Below W3.heap.size W3 W4 := by rw [← h4]; exact alloc_below _ _
  have b5 : Below W4.heap.size W4 W5 := by rw [← h5]; exact alloc_below _ _
  have c45 : Below W4.heap.size W4 W5 := b5
  have c35 : Below W3.heap.size W3 W5 := b4.trans (c45.mono (by omega))
  have c25 : Below W2.heap.size W2 W5 := b3.trans (c35.mono (by omega))
  have c15 : Below W1.heap.size W1 W5 := b2.trans (c25.mono (by omega))
  have g1 : Below (w.alloc (.cells #[pv] t)).heap.size (w.alloc (.cells #[pv] t)) W5 := by rw [h1]; exact c15
  have g2 : Below (W1.alloc (.cells #[p0, p1, p2, p3, p4, p5] u)).heap.size (W1.alloc (.cells #[p0, p1, p2, p3, p4, p5] u)) W5 := by rw [h2]; exact c25
  have g3 : Below (W2.alloc (.cells #[a0, a1, a2, a3, a4, a5] s)).heap.size (W2.alloc (.cells #[a0, a1, a2, a3, a4, a5] s)) W5 := by rw [h3]; exact c35
  have g4 : Below (W3.alloc (.cells #[l0, l1] q)).heap.size (W3.alloc (.cells #[l0, l1] q)) W5 := by rw [h4]; exact c45
  have g5 : Below (W4.alloc (.cells #[.int .i64 now] r)).heap.size (W4.alloc (.cells #[.int .i64 now] r)) W5 := by rw [h5]; exact Below.refl _ _
  exact ⟨box_later g1 rfl,
    by rw [← s1]; exact ⟨box_later g2 rfl, box_later g2 rfl, box_later g2 rfl, box_later g2 rfl, box_later g2 rfl, box_later g2 rfl⟩,
    by rw [← s2]; exact ⟨box_later g3 rfl, box_later g3 rfl, box_later g3 rfl, box_later g3 rfl, box_later g3 rfl, box_later g3 rfl⟩,
    by rw [← s3]; exact box_later g4 rfl, by rw [← s3]; exact box_later g4 rfl, by rw [← s4]; exact box_later g5 rfl, by omega, b1.trans (c15.mono (by omega))⟩
set_option maxHeartbeats 3200000 in
set_option maxRecDepth 100000 in
theorem quiet_any (s0 s1 s2 s4 s5 : Option Addr × Nat × Nat) (rs : List Nmd) (rv : Value) (src : ByteArray) (fl : List Fld) (fv : Value) (lv : Int) (c : Nat) (fr til : Int) (tl : Int) (tc : Nat) (now : Int) (lp m n : Nat) (S : List Sil) (last : Int) (w : World)
    (h : SlAt w lp m n S last) (hv : NmdsAt w rv rs) (hl : rs.length ≤ maxLen) (hf : FldsAt w fv fl) (hfl : fl.length ≤ 1000000000000) (hfit : FldsFit fl) :
    Calls Tryz.prog 29 #[.pointer (some ⟨lp, 0, none⟩), .agg #[SV s0, SV s1, SV s2, rv, SV s4, SV s5], .agg #[.string src, fv, .int .i64 lv, .int .u32 c, .int .i64 fr, .int .i64 til], Lab tl tc, .int .i64 now] w fun e w' =>
      ∃ v', e = .returned v' ∧ IntsAt w' v' (quietL rs S fl (lv, c) (tl, tc) now) ∧ Below w.heap.size w w' := by
  obtain ⟨ra, rc, rfl, _, _⟩ := RdAt.shape hv
  obtain ⟨fa, fc, rfl, _, _⟩ := RdAt.shape hf
  have k1 := fun W (hb : Below w.heap.size w W) => cut_any s0 s1 s2 s4 s5 rs (.slice ra rs.length rc) src fl (.slice fa fl.length fc) lv c fr til tl tc W (hv.later hb) hl (hf.later hb) hfl
  obtain ⟨a0, n0, c0⟩ := s0
  obtain ⟨a1, n1, c1⟩ := s1
  obtain ⟨a2, n2, c2⟩ := s2
  obtain ⟨a4, n4, c4⟩ := s4
  obtain ⟨a5, n5, c5⟩ := s5
  have hX := quBox w (.pointer (some ⟨lp, 0, none⟩)) (.slice a0 n0 c0) (.slice a1 n1 c1) (.slice a2 n2 c2) (.slice ra rs.length rc) (.slice a4 n4 c4) (.slice a5 n5 c5) (.string src) (.slice fa fl.length fc) (.int .i64 lv) (.int .u32 c) (.int .i64 fr) (.int .i64 til) (.int .i64 tl) (.int .u32 tc) now 51 76 53 26 3
  obtain ⟨W0, hW0⟩ : ∃ z, (((((w.alloc (.cells #[.pointer (some ⟨lp, 0, none⟩)] 51)).alloc (.cells #[.slice a0 n0 c0, .slice a1 n1 c1, .slice a2 n2 c2, .slice ra rs.length rc, .slice a4 n4 c4, .slice a5 n5 c5] 76)).alloc (.cells #[.string src, .slice fa fl.length fc, .int .i64 lv, .int .u32 c, .int .i64 fr, .int .i64 til] 53)).alloc (.cells #[.int .i64 tl, .int .u32 tc] 26)).alloc (.cells #[.int .i64 now] 3)) = z := ⟨_, rfl⟩
  rw [hW0] at hX
  have HX := Lib.hid hX
  have H := Lib.hid h
  have k1 := k1 W0 hX.below
  have HQL : Hid (quietL rs S fl (lv, c) (tl, tc) now = if cutOk rs fl (lv, c) (tl, tc) = true then (S.filter fun s => quietS (visL rs fl (lv, c) (tl, tc)) (tl, tc) now s).map (·.id) else []) := Lib.hid rfl
  have hvl : (visL rs fl (lv, c) (tl, tc)).length ≤ fl.length := List.length_filter_le _ _
  have hvf : FldsFit (visL rs fl (lv, c) (tl, tc)) := fun x hx => hfit x (List.mem_filter.1 hx).1
  have HVF := Lib.hid hvf
  generalize visL rs fl (lv, c) (tl, tc) = V at *
  generalize cutOk rs fl (lv, c) (tl, tc) = CO at *
  generalize quietL rs S fl (lv, c) (tl, tc) now = QL at *
  obtain ⟨q1, ⟨p0, p1, p2, p3, p4, p5⟩, ⟨x0, x1, x2, x3, x4, x5⟩, l0, l1, y0, _, _⟩ := hX
  unfold SV at k1 ⊢
  dsimp only at k1 ⊢
  clear h hv hf hfit hvf
  go_enter Tryz.func29, Tryz.ntmps29
  go_upto_region 1 with fail
  clear hW0
  go_wp2_with fail
  refine k1.mono ?_
  rintro e w1 ⟨v', hF, hO, hb1, rfl⟩
  have HX1 := Lib.hid (HX.out.later hb1)
  have HF := Lib.hid hF
  clear k1 hb1 HX hF hO q1 p0 p1 p2 p3 p4 p5 x0 x1 x2 x3 x4 x5 l0 l1 y0
  obtain ⟨va, vc, rfl, _, _⟩ := RdAt.shape HF.out
  cases CO with
  | false =>
    unfold cutR zeroA
    dsimp only
    go_wp2
    go_ret
    exact ⟨_, rfl, by rw [HQL.out]; exact IntsAt.nil _, HX1.out.below.trans ((alloc_below _ _).mono HX1.out.below.size)⟩
  | true =>
  have hba := alloc_below w1 (.cells #[.string src, .slice va V.length vc, .int .i64 lv, .int .u32 c, .int .i64 fr, .int .i64 til] 53)
  have hbx := box_later (Below.refl (w1.alloc (.cells #[.string src, .slice va V.length vc, .int .i64 lv, .int .u32 c, .int .i64 fr, .int .i64 til] 53)).heap.size (w1.alloc (.cells #[.string src, .slice va V.length vc, .int .i64 lv, .int .u32 c, .int .i64 fr, .int .i64 til] 53))) (i := 1) (x := .slice va V.length vc) rfl
  unfold cutR
  dsimp only
  obtain ⟨W2, hW2⟩ : ∃ z, w1.alloc (.cells #[.string src, .slice va V.length vc, .int .i64 lv, .int .u32 c, .int .i64 fr, .int .i64 til] 53) = z := ⟨_, rfl⟩
  rw [hW2] at hba hbx
  have HX2 := Lib.hid (HX1.out.later hba)
  have HF2 := Lib.hid (HF.out.later hba)
  have HBX := Lib.hid hbx
  obtain ⟨q1, _, _, _, _, _, _, _⟩ := HX2.out
  have H2 := Lib.hid (H.out.later HX2.out.below)
  have kn := num_any lp m n S last W2 H2.out
  have hSl : (S.map (·.id)).length ≤ 1000000 := by
    have h1 := H2.out.own.size_le
    rw [DS_size] at h1
    rw [List.length_map]
    have := H2.out.len
    omega
  clear hba hbx HX1 HF H
  go_wp2_with fail
  refine kn.mono ?_
  rintro e w3 ⟨v, rfl, hrow, hb3⟩
  have HX3 := Lib.hid (HX2.out.later hb3)
  have kd := delS_any (S.map (·.id)) (offS S V (tl, tc) now) (.pointer (some ⟨w.heap.size, 0, none⟩)) (.pointer (some ⟨w.heap.size + 1 + 1 + 1, 0, none⟩)) (.pointer (some ⟨w.heap.size + 1 + 1 + 1 + 1, 0, none⟩)) (.pointer (some ⟨w1.heap.size, 0, none⟩)) W2.heap.size v w3 (by rw [List.length_map]; exact hrow) hb3.size hSl (fun W hW x hx => by
    obtain ⟨s, hs, rfl⟩ := List.mem_map.1 hx
    have hb := hb3.trans hW
    have hO : offS S V (tl, tc) now s.id = !(quietS V (tl, tc) now s) := by unfold offS; rw [find_self H2.out.up hs]
    rw [hO]
    have hx2 := HX2.out.later hb
    exact qclos w.heap.size (w.heap.size + 1 + 1 + 1) (w.heap.size + 1 + 1 + 1 + 1) w1.heap.size lp m n (tl, tc) now V (.slice va V.length vc) S last s W (H2.out.later hb) hs
      ⟨hx2.b1, hx2.l0, hx2.l1, hx2.n, keep_cell HBX.out hb (cell_lt HBX.out), HF2.out.later hb⟩ (by omega) HVF.out)
  rw [off_ids H2.out.up] at kd
  have HB3 := Lib.hid (HX3.out.below)
  have hs3 : w.heap.size ≤ W2.heap.size := HX2.out.below.size
  have HS3 := Lib.hid (HX2.out.below.trans (hb3.mono hs3))
  have hb3s := hb3.size
  clear kn hrow hb3 q1
  go_wp2_with fail
  refine kd.mono ?_
  rintro e w4 ⟨v', rfl, hI, hb4⟩
  have HI := Lib.hid hI
  have HB4 := Lib.hid (HS3.out.trans (hb4.mono hs3))
  clear kd hI hb4
  go_wp2
  go_ret
  exact ⟨_, rfl, by rw [HQL.out]; exact HI.out, HB4.out⟩
set_option maxHeartbeats 3200000 in
set_option maxRecDepth 100000 in
theorem quiet_nil (s0 s1 s2 s4 s5 : Option Addr × Nat × Nat) (rs : List Nmd) (rv : Value) (src : ByteArray) (fl : List Fld) (fv : Value) (lv : Int) (c : Nat) (fr til : Int) (tl : Int) (tc : Nat) (now : Int) (w : World)
    (hv : NmdsAt w rv rs) (hl : rs.length ≤ maxLen) (hf : FldsAt w fv fl) (hfl : fl.length ≤ 1000000000000) (hfit : FldsFit fl) :
    Calls Tryz.prog 29 #[.pointer none, .agg #[SV s0, SV s1, SV s2, rv, SV s4, SV s5], .agg #[.string src, fv, .int .i64 lv, .int .u32 c, .int .i64 fr, .int .i64 til], Lab tl tc, .int .i64 now] w fun e w' =>
      ∃ v', e = .returned v' ∧ IntsAt w' v' [] ∧ Below w.heap.size w w' := by
  obtain ⟨ra, rc, rfl, _, _⟩ := RdAt.shape hv
  obtain ⟨fa, fc, rfl, _, _⟩ := RdAt.shape hf
  have k1 := fun W (hb : Below w.heap.size w W) => cut_any s0 s1 s2 s4 s5 rs (.slice ra rs.length rc) src fl (.slice fa fl.length fc) lv c fr til tl tc W (hv.later hb) hl (hf.later hb) hfl
  obtain ⟨a0, n0, c0⟩ := s0
  obtain ⟨a1, n1, c1⟩ := s1
  obtain ⟨a2, n2, c2⟩ := s2
  obtain ⟨a4, n4, c4⟩ := s4
  obtain ⟨a5, n5, c5⟩ := s5
  have hX := quBox w (.pointer none) (.slice a0 n0 c0) (.slice a1 n1 c1) (.slice a2 n2 c2) (.slice ra rs.length rc) (.slice a4 n4 c4) (.slice a5 n5 c5) (.string src) (.slice fa fl.length fc) (.int .i64 lv) (.int .u32 c) (.int .i64 fr) (.int .i64 til) (.int .i64 tl) (.int .u32 tc) now 51 76 53 26 3
  obtain ⟨W0, hW0⟩ : ∃ z, (((((w.alloc (.cells #[.pointer none] 51)).alloc (.cells #[.slice a0 n0 c0, .slice a1 n1 c1, .slice a2 n2 c2, .slice ra rs.length rc, .slice a4 n4 c4, .slice a5 n5 c5] 76)).alloc (.cells #[.string src, .slice fa fl.length fc, .int .i64 lv, .int .u32 c, .int .i64 fr, .int .i64 til] 53)).alloc (.cells #[.int .i64 tl, .int .u32 tc] 26)).alloc (.cells #[.int .i64 now] 3)) = z := ⟨_, rfl⟩
  rw [hW0] at hX
  have HX := Lib.hid hX
  have k1 := k1 W0 hX.below
  have hvl : (visL rs fl (lv, c) (tl, tc)).length ≤ fl.length := List.length_filter_le _ _
  have hvf : FldsFit (visL rs fl (lv, c) (tl, tc)) := fun x hx => hfit x (List.mem_filter.1 hx).1
  have HVF := Lib.hid hvf
  generalize visL rs fl (lv, c) (tl, tc) = V at *
  generalize cutOk rs fl (lv, c) (tl, tc) = CO at *
  obtain ⟨q1, ⟨p0, p1, p2, p3, p4, p5⟩, ⟨x0, x1, x2, x3, x4, x5⟩, l0, l1, y0, _, _⟩ := hX
  unfold SV at k1 ⊢
  dsimp only at k1 ⊢
  clear hv hf hfit hvf
  go_enter Tryz.func29, Tryz.ntmps29
  go_upto_region 1 with fail
  clear hW0
  go_wp2_with fail
  refine k1.mono ?_
  rintro e w1 ⟨v', hF, hO, hb1, rfl⟩
  have HX1 := Lib.hid (HX.out.later hb1)
  have HF := Lib.hid hF
  clear k1 hb1 HX hF hO q1 p0 p1 p2 p3 p4 p5 x0 x1 x2 x3 x4 x5 l0 l1 y0
  obtain ⟨va, vc, rfl, _, _⟩ := RdAt.shape HF.out
  cases CO with
  | false =>
    unfold cutR zeroA
    dsimp only
    go_wp2
    go_ret
    exact ⟨_, rfl, IntsAt.nil _, HX1.out.below.trans ((alloc_below _ _).mono HX1.out.below.size)⟩
  | true =>
  have hba := alloc_below w1 (.cells #[.string src, .slice va V.length vc, .int .i64 lv, .int .u32 c, .int .i64 fr, .int .i64 til] 53)
  have hbx := box_later (Below.refl (w1.alloc (.cells #[.string src, .slice va V.length vc, .int .i64 lv, .int .u32 c, .int .i64 fr, .int .i64 til] 53)).heap.size (w1.alloc (.cells #[.string src, .slice va V.length vc, .int .i64 lv, .int .u32 c, .int .i64 fr, .int .i64 til] 53))) (i := 1) (x := .slice va V.length vc) rfl
  unfold cutR
  dsimp only
  obtain ⟨W2, hW2⟩ : ∃ z, w1.alloc (.cells #[.string src, .slice va V.length vc, .int .i64 lv, .int .u32 c, .int .i64 fr, .int .i64 til] 53) = z := ⟨_, rfl⟩
  rw [hW2] at hba hbx
  have HX2 := Lib.hid (HX1.out.later hba)
  have HF2 := Lib.hid (HF.out.later hba)
  have HBX := Lib.hid hbx
  obtain ⟨q1, _, _, _, _, _, _, _⟩ := HX2.out
  have kn := num_nil W2
  clear hba hbx HX1 HF
  go_wp2_with fail
  refine kn.mono ?_
  rintro e w3 ⟨rfl, hb3⟩
  have HX3 := Lib.hid (HX2.out.later hb3)
  have kd := delS_any [] (fun _ => true) (.pointer (some ⟨w.heap.size, 0, none⟩)) (.pointer (some ⟨w.heap.size + 1 + 1 + 1, 0, none⟩)) (.pointer (some ⟨w.heap.size + 1 + 1 + 1 + 1, 0, none⟩)) (.pointer (some ⟨w1.heap.size, 0, none⟩)) W2.heap.size (.slice none 0 0) w3 (World.ownsRow_nil _ _ _ _) hb3.size (by simp) (fun W hW x hx => by cases hx)
  have HB3 := Lib.hid (HX3.out.below)
  have hs3 : w.heap.size ≤ W2.heap.size := HX2.out.below.size
  have HS3 := Lib.hid (HX2.out.below.trans (hb3.mono hs3))
  have hb3s := hb3.size
  clear kn hb3 q1
  go_wp2_with fail
  refine kd.mono ?_
  rintro e w4 ⟨v', rfl, hI, hb4⟩
  have HI := Lib.hid hI
  have HB4 := Lib.hid (HS3.out.trans (hb4.mono hs3))
  clear kd hI hb4
  go_wp2
  go_ret
  exact ⟨_, rfl, HI.out, HB4.out⟩
end Go.Proofs.YtcfococinllcmaaGreat

/- silences: Quiet: where its result lies. -/
namespace Go.Proofs.YtcfococinllcmaaGreat
open Go.RowKit Go.Maps

set_option maxHeartbeats 3200000 in
set_option maxRecDepth 100000 in
theorem quiet_own (s0 s1 s2 s4 s5 : Option Addr × Nat × Nat) (rs : List Nmd) (rv : Value) (src : ByteArray) (fl : List Fld) (fv : Value) (lv : Int) (c : Nat) (fr til : Int) (tl : Int) (tc : Nat) (now : Int) (lp m n : Nat) (S : List Sil) (last : Int) (w : World)
    (h : SlAt w lp m n S last) (hv : NmdsAt w rv rs) (hl : rs.length ≤ maxLen) (hf : FldsAt w fv fl) (hfl : fl.length ≤ 1000000000000) (hfit : FldsFit fl) :
    Calls Tryz.prog 29 #[.pointer (some ⟨lp, 0, none⟩), .agg #[SV s0, SV s1, SV s2, rv, SV s4, SV s5], .agg #[.string src, fv, .int .i64 lv, .int .u32 c, .int .i64 fr, .int .i64 til], Lab tl tc, .int .i64 now] w fun e w' =>
      ∃ v', e = .returned v' ∧ IntsAt w' v' (quietL rs S fl (lv, c) (tl, tc) now) ∧ Below w.heap.size w w' ∧ ∀ q, v'.ownBlock = some q → w.heap.size ≤ q := by
  obtain ⟨ra, rc, rfl, _, _⟩ := RdAt.shape hv
  obtain ⟨fa, fc, rfl, _, _⟩ := RdAt.shape hf
  have k1 := fun W (hb : Below w.heap.size w W) => cut_any s0 s1 s2 s4 s5 rs (.slice ra rs.length rc) src fl (.slice fa fl.length fc) lv c fr til tl tc W (hv.later hb) hl (hf.later hb) hfl
  obtain ⟨a0, n0, c0⟩ := s0
  obtain ⟨a1, n1, c1⟩ := s1
  obtain ⟨a2, n2, c2⟩ := s2
  obtain ⟨a4, n4, c4⟩ := s4
  obtain ⟨a5, n5, c5⟩ := s5
  have hX := quBox w (.pointer (some ⟨lp, 0, none⟩)) (.slice a0 n0 c0) (.slice a1 n1 c1) (.slice a2 n2 c2) (.slice ra rs.length rc) (.slice a4 n4 c4) (.slice a5 n5 c5) (.string src) (.slice fa fl.length fc) (.int .i64 lv) (.int .u32 c) (.int .i64 fr) (.int .i64 til) (.int .i64 tl) (.int .u32 tc) now 51 76 53 26 3
  obtain ⟨W0, hW0⟩ : ∃ z, (((((w.alloc (.cells #[.pointer (some ⟨lp, 0, none⟩)] 51)).alloc (.cells #[.slice a0 n0 c0, .slice a1 n1 c1, .slice a2 n2 c2, .slice ra rs.length rc, .slice a4 n4 c4, .slice a5 n5 c5] 76)).alloc (.cells #[.string src, .slice fa fl.length fc, .int .i64 lv, .int .u32 c, .int .i64 fr, .int .i64 til] 53)).alloc (.cells #[.int .i64 tl, .int .u32 tc] 26)).alloc (.cells #[.int .i64 now] 3)) = z := ⟨_, rfl⟩
  rw [hW0] at hX
  have HX := Lib.hid hX
  have H := Lib.hid h
  have k1 := k1 W0 hX.below
  have HQL : Hid (quietL rs S fl (lv, c) (tl, tc) now = if cutOk rs fl (lv, c) (tl, tc) = true then (S.filter fun s => quietS (visL rs fl (lv, c) (tl, tc)) (tl, tc) now s).map (·.id) else []) := Lib.hid rfl
  have hvl : (visL rs fl (lv, c) (tl, tc)).length ≤ fl.length := List.length_filter_le _ _
  have hvf : FldsFit (visL rs fl (lv, c) (tl, tc)) := fun x hx => hfit x (List.mem_filter.1 hx).1
  have HVF := Lib.hid hvf
  generalize visL rs fl (lv, c) (tl, tc) = V at *
  generalize cutOk rs fl (lv, c) (tl, tc) = CO at *
  generalize quietL rs S fl (lv, c) (tl, tc) now = QL at *
  obtain ⟨q1, ⟨p0, p1, p2, p3, p4, p5⟩, ⟨x0, x1, x2, x3, x4, x5⟩, l0, l1, y0, _, _⟩ := hX
  unfold SV at k1 ⊢
  dsimp only at k1 ⊢
  clear h hv hf hfit hvf
  go_enter Tryz.func29, Tryz.ntmps29
  go_upto_region 1 with fail
  clear hW0
  go_wp2_with fail
  refine k1.mono ?_
  rintro e w1 ⟨v', hF, hO, hb1, rfl⟩
  have HX1 := Lib.hid (HX.out.later hb1)
  have HF := Lib.hid hF
  clear k1 hb1 HX hF hO q1 p0 p1 p2 p3 p4 p5 x0 x1 x2 x3 x4 x5 l0 l1 y0
  obtain ⟨va, vc, rfl, _, _⟩ := RdAt.shape HF.out
  cases CO with
  | false =>
    unfold cutR zeroA
    dsimp only
    go_wp2
    go_ret
    exact ⟨_, rfl, by rw [HQL.out]; exact IntsAt.nil _, HX1.out.below.trans ((alloc_below _ _).mono HX1.out.below.size), fun q hq => by cases hq⟩
  | true =>
  have hba := alloc_below w1 (.cells #[.string src, .slice va V.length vc, .int .i64 lv, .int .u32 c, .int .i64 fr, .int .i64 til] 53)
  have hbx := box_later (Below.refl (w1.alloc (.cells #[.string src, .slice va V.length vc, .int .i64 lv, .int .u32 c, .int .i64 fr, .int .i64 til] 53)).heap.size (w1.alloc (.cells #[.string src, .slice va V.length vc, .int .i64 lv, .int .u32 c, .int .i64 fr, .int .i64 til] 53))) (i := 1) (x := .slice va V.length vc) rfl
  unfold cutR
  dsimp only
  obtain ⟨W2, hW2⟩ : ∃ z, w1.alloc (.cells #[.string src, .slice va V.length vc, .int .i64 lv, .int .u32 c, .int .i64 fr, .int .i64 til] 53) = z := ⟨_, rfl⟩
  rw [hW2] at hba hbx
  have HX2 := Lib.hid (HX1.out.later hba)
  have HF2 := Lib.hid (HF.out.later hba)
  have HBX := Lib.hid hbx
  obtain ⟨q1, _, _, _, _, _, _, _⟩ := HX2.out
  have H2 := Lib.hid (H.out.later HX2.out.below)
  have kn := num_any lp m n S last W2 H2.out
  have hSl : (S.map (·.id)).length ≤ 1000000 := by
    have h1 := H2.out.own.size_le
    rw [DS_size] at h1
    rw [List.length_map]
    have := H2.out.len
    omega
  clear hba hbx HX1 HF H
  go_wp2_with fail
  refine kn.mono ?_
  rintro e w3 ⟨v, rfl, hrow, hb3⟩
  have HX3 := Lib.hid (HX2.out.later hb3)
  have kd := delS_own (S.map (·.id)) (offS S V (tl, tc) now) (.pointer (some ⟨w.heap.size, 0, none⟩)) (.pointer (some ⟨w.heap.size + 1 + 1 + 1, 0, none⟩)) (.pointer (some ⟨w.heap.size + 1 + 1 + 1 + 1, 0, none⟩)) (.pointer (some ⟨w1.heap.size, 0, none⟩)) W2.heap.size v w3 (by rw [List.length_map]; exact hrow) hb3.size hSl (fun W hW x hx => by
    obtain ⟨s, hs, rfl⟩ := List.mem_map.1 hx
    have hb := hb3.trans hW
    have hO : offS S V (tl, tc) now s.id = !(quietS V (tl, tc) now s) := by unfold offS; rw [find_self H2.out.up hs]
    rw [hO]
    have hx2 := HX2.out.later hb
    exact qclos w.heap.size (w.heap.size + 1 + 1 + 1) (w.heap.size + 1 + 1 + 1 + 1) w1.heap.size lp m n (tl, tc) now V (.slice va V.length vc) S last s W (H2.out.later hb) hs
      ⟨hx2.b1, hx2.l0, hx2.l1, hx2.n, keep_cell HBX.out hb (cell_lt HBX.out), HF2.out.later hb⟩ (by omega) HVF.out)
  rw [off_ids H2.out.up] at kd
  have HB3 := Lib.hid (HX3.out.below)
  have hs3 : w.heap.size ≤ W2.heap.size := HX2.out.below.size
  have HS3 := Lib.hid (HX2.out.below.trans (hb3.mono hs3))
  have hb3s := hb3.size
  clear kn hrow hb3 q1
  go_wp2_with fail
  refine kd.mono ?_
  rintro e w4 ⟨v', rfl, hI, hb4, hq4⟩
  have HI := Lib.hid hI
  have HQ4 := Lib.hid (fun q hq => Nat.le_trans hs3 (hq4 q hq))
  have HB4 := Lib.hid (HS3.out.trans (hb4.mono hs3))
  clear kd hI hb4 hq4
  go_wp2
  go_ret
  exact ⟨_, rfl, by rw [HQL.out]; exact HI.out, HB4.out, HQ4.out⟩
end Go.Proofs.YtcfococinllcmaaGreat

/- silences, plainly: what is forgotten. -/
namespace Go.Proofs.YtcfococinllcmaaGreat
open Go.RowKit

theorem quiet_ended (fl : List Fld) (t : Int × Nat) (now : Int) (s : Sil) (h : quietS fl t now s = true) : endS now s = false := by
  unfold quietS at h
  simp only [Bool.and_eq_true, decide_eq_true_eq] at h
  unfold endS
  exact decide_eq_false (by omega)
theorem quiet_left (rs : List Nmd) (S : List Sil) (fl : List Fld) (f t : Int × Nat) (now : Int) : quietL rs (S.filter fun s => !endS now s) fl f t now = quietL rs S fl f t now := by
  unfold quietL
  split
  · congr 1
    rw [List.filter_filter]
    apply List.filter_congr
    intro s _
    cases h : quietS (visL rs fl f t) t now s with
    | false => rfl
    | true => rw [quiet_ended _ _ _ _ h]; rfl
  · rfl
theorem left_none (S : List Sil) (now : Int) : (S.filter fun s => !endS now s).countP (endS now) = 0 := by
  rw [List.countP_eq_zero]
  intro s hs
  have := (List.mem_filter.1 hs).2
  cases h : endS now s with
  | false => simp
  | true => rw [h] at this; cases this
theorem left_count (S : List Sil) (now : Int) : S.countP (endS now) + (S.filter fun s => !endS now s).length = S.length := by
  rw [← List.countP_eq_length_filter, List.length_eq_countP_add_countP (endS now) (l := S)]
  congr 1
  apply List.countP_congr
  intro s _
  simp
theorem left_til (S : List Sil) (now : Int) (s : Sil) (h : s ∈ S.filter fun s => !endS now s) : now < s.til := by
  have := (List.mem_filter.1 h).2
  unfold endS at this
  simp at this
  exact this
theorem quiet_len (rs : List Nmd) (S : List Sil) (fl : List Fld) (f t : Int × Nat) (now : Int) : (quietL rs S fl f t now).length ≤ S.length := by
  unfold quietL
  split
  · rw [List.length_map]; exact List.length_filter_le _ _
  · exact Nat.zero_le _
/-- ints, where their block is kept -/
theorem ints_kp {w w' : World} {lp m : Nat} {v : Value} {l : List Int} (h : IntsAt w v l) (hk : Kp lp m w w') (hq : ∀ q, v.ownBlock = some q → q ≠ lp ∧ q ≠ m) : IntsAt w' v l := hk.rd h hq
theorem c6_kp {w w' : World} {lp m p : Nat} {a b c d e f : Value} (h : C6 p a b c d e f w) (hk : Kp lp m w w') (h1 : p ≠ lp) (h2 : p ≠ m) : C6 p a b c d e f w' := by
  obtain ⟨x0, x1, x2, x3, x4, x5⟩ := h
  exact ⟨hk.cell x0 h1 h2, hk.cell x1 h1 h2, hk.cell x2 h1 h2, hk.cell x3 h1 h2, hk.cell x4 h1 h2, hk.cell x5 h1 h2⟩
theorem rd_kp {w w' : World} {lp m : Nat} {v : Value} {n k : Nat} {xs : List Value} (h : RdAt w v n k xs) (hk : Kp lp m w w') (hq : 0 < n → ∀ q, v.ownBlock = some q → q ≠ lp ∧ q ≠ m) : RdAt w' v n k xs := by
  rcases Nat.eq_zero_or_pos n with h0 | h0
  · subst h0
    refine ⟨h.1, ?_⟩
    rcases h.2 with h1 | ⟨a, c, rfl, hc, _⟩
    · exact .inl h1
    · exact .inr ⟨a, c, rfl, hc, fun hn => absurd hn (Nat.lt_irrefl _)⟩
  · exact hk.rd h (hq h0)
end Go.Proofs.YtcfococinllcmaaGreat

/- slices.Concat at []int: a contract. -/
namespace Go.Proofs.YtcfococinllcmaaGreat
open Go.RowKit Go.Sort

theorem info_int : (Tryz.prog.info? 3).map (fun i => (i.zero, i.size, i.bytes)) = some (some (.int .i64 0), 1, 8) := by kernel_rfl
/-- slices.Grow from nothing -/
theorem grow_any (n : Nat) (w : World) (h0 : 0 < n) (hn : n ≤ 1000) :
    Calls Tryz.prog 102 #[.slice none 0 0, .int .i64 n] w fun e w' => ∃ g cap, e = .returned (.slice (some ⟨g, 0, none⟩) 0 cap) ∧ w'.ownsRow w.heap.size 3 1 (.slice (some ⟨g, 0, none⟩) 0 cap) 0 [] ∧ Below w.heap.size w w' := by
  obtain ⟨i0, hi, hz0, hz1, hz2⟩ := info_parts info_int
  have h := Any8.slices_Grow_grow Tryz.lays8n4 i0 (.int .i64 0) hi hz0 (by rw [hz1]; decide) none 0 0 n [] w (Nat.le_refl _) (by omega) (by rw [hz2]; omega) (by omega) (by simp) (fun _ => rfl) (fun _ h => by cases h)
  refine Calls.mono h ?_
  rintro e w' ⟨rfl, rfl⟩
  refine ⟨_, _, rfl, ⟨rfl, .inr ⟨w.heap.size, _, _, rfl, Nat.le_refl _, heap_alloc_new _ _, Nat.zero_le _, grownCap_le_maxLen _ _ _ _ (by unfold maxLen; omega), ?_, by simp⟩⟩, ((Below.refl _ _).drew).alloc (Nat.le_refl _) _⟩
  have hge := grownCap_ge w (0 + n) 0 (Tryz.lays8n4_ren.t 25)
  have e1 : (Value.int IntKind.i64 0).cells.size = 1 := rfl
  simp [Builtin.zeroCells, e1] at hge ⊢
  omega
/-- the slices that are laid together -/
def SlsAt (w : World) (a : Addr) (ls : List (Value × List Int)) : Prop :=
  ∃ b o, a = ⟨b, o, none⟩ ∧ b < w.heap.size ∧ ∀ j (h : j < ls.length), w.cell? ⟨b, o + j, none⟩ = some ls[j].1 ∧ IntsAt w ls[j].1 ls[j].2
def sumL (ls : List (Value × List Int)) : List Int := ls.flatMap (·.2)
theorem sumL_take {ls : List (Value × List Int)} {k : Nat} (h : k < ls.length) : sumL (ls.take (k + 1)) = sumL (ls.take k) ++ ls[k].2 := by
  unfold sumL
  rw [List.take_succ_eq_append_getElem h, List.flatMap_append]; simp
theorem sumL_le (ls : List (Value × List Int)) (k : Nat) : (sumL (ls.take k)).length ≤ (sumL ls).length := by
  have : sumL ls = sumL (ls.take k) ++ sumL (ls.drop k) := by unfold sumL; rw [← List.flatMap_append, List.take_append_drop]
  rw [this, List.length_append]; omega

set_option maxHeartbeats 1600000 in
set_option maxRecDepth 100000 in
theorem concat_any (ls : List (Value × List Int)) (a : Addr) (c : Nat) (w : World) (hls : SlsAt w a ls) (hne : 0 < (sumL ls).length) (hl : (sumL ls).length ≤ 1000) (hn : ls.length ≤ 1000) :
    Calls Tryz.prog 77 #[.slice (some a) ls.length c] w fun e w' => ∃ v, e = .returned v ∧ w'.ownsRow w.heap.size 3 1 v (sumL ls).length ((sumL ls).map I) ∧ Below w.heap.size w w' := by
  obtain ⟨b, o, rfl, hb, hcell⟩ := hls
  obtain ⟨i0, hi, hz0, hz1, hz2⟩ := info_parts info_int
  have HC := Lib.hid hcell
  clear hcell
  go_enter Tryz.func77, Tryz.ntmps77
  go_wp2
  go_loopw [3, 11] (fun s i wr => ∃ k t : Nat, k ≤ ls.length ∧ i = .int .i64 k ∧ s = .int .i64 t ∧ t ≤ 1000 ∧ Hid (t = (sumL (ls.take k)).length) ∧ Below w.heap.size w wr) (fun _ i _ => ls.length - (intOf i).toNat)
  case atStart => exact ⟨0, 0, Nat.zero_le _, rfl, rfl, by omega, Lib.hid rfl, Below.refl _ _⟩
  case round =>
    obtain ⟨k, t, hk, rfl, rfl, ht, HT, hbr⟩ := hrel
    by_cases hkl : k < ls.length
    · obtain ⟨h1, h2⟩ := HC.out k hkl
      obtain ⟨x, hx⟩ : ∃ x, ls[k] = x := ⟨_, rfl⟩
      have HN : Hid (t + x.2.length = (sumL (ls.take (k + 1))).length) := by show _ = _; rw [sumL_take hkl, List.length_append, HT.out, hx]
      have hle : t + x.2.length ≤ 1000 := by rw [HN.out]; exact Nat.le_trans (sumL_le ls (k + 1)) hl
      rw [hx] at h1 h2
      obtain ⟨va, vl⟩ := x
      obtain ⟨a1, c1, hva, hc1, _⟩ := RdAt.shape h2
      dsimp only at hva hc1
      subst hva
      have hcr : wr.cell? ⟨b, o + k, none⟩ = some (.slice a1 vl.length c1) := keep_cell h1 hbr hb
      have hle' : (t : Int) + (vl.length : Int) ≤ 1000 := by dsimp only at hle; omega
      clear h1 h2 hx HT
      go_wp2
      go_roundw
      case rel => exact ⟨k + 1, t + vl.length, by omega, by go_num, by go_num, hle, HN, hbr⟩
      case measure => (simp [intOf]; try omega)
    · obtain rfl : k = ls.length := by omega
      obtain rfl : t = (sumL ls).length := by rw [HT.out, List.take_length]
      clear HT
      have hg := grow_any (sumL ls).length wr hne hl
      go_wp2_with fail
      refine hg.mono ?_
      rintro e w1 ⟨g, cap, rfl, hown, hb1⟩
      have hown1 := own_base hown hbr.size
      have hbr1 := hbr.trans (hb1.mono hbr.size)
      clear hg hown hbr hb1
      go_wp2
      go_loopw [6, 27] (fun v i wr => ∃ k : Nat, k ≤ ls.length ∧ i = .int .i64 k ∧ wr.ownsRow w.heap.size 3 1 v (sumL (ls.take k)).length ((sumL (ls.take k)).map I) ∧ Below w.heap.size w wr) (fun _ i _ => ls.length - (intOf i).toNat)
      case atStart => exact ⟨0, Nat.zero_le _, rfl, hown1, hbr1⟩
      case round =>
        obtain ⟨k, hk, rfl, hown, hbr⟩ := hrel
        by_cases hkl : k < ls.length
        · obtain ⟨h1, h2⟩ := HC.out k hkl
          have e1 := sumL_take hkl
          have hle1 : (sumL (ls.take (k + 1))).length ≤ 1000 := Nat.le_trans (sumL_le ls (k + 1)) hl
          obtain ⟨x, hx⟩ : ∃ x, ls[k] = x := ⟨_, rfl⟩
          rw [hx] at h1 h2 e1
          obtain ⟨va, vl⟩ := x
          have hcr : wr.cell? ⟨b, o + k, none⟩ = some va := keep_cell h1 hbr hb
          have hrd : IntsAt wr va vl := IntsAt.later h2 hbr
          have hle : (sumL (ls.take k)).length + vl.length ≤ 1000 := by rw [e1, List.length_append] at hle1; exact hle1
          have HE := Lib.hid e1
          clear h1 h2 hx e1 hle1
          go_wp2_with (at_builtin; (refine wpList_append_rd rfl (.tmp 31) (.tmp 32) 32 rfl w.heap.size 3 i0 (.int .i64 0) 1 8 Tryz.underlying32 hi hz0 hz1 hz2 rfl (by decide) _ _ _ rfl hown _ vl.length (vl.map I) rfl hrd (i_cells vl) (by unfold maxLen; omega) (by omega) hbr.size ?_); intro v' w' hown' hgrow)
          have hb' : Below w.heap.size w w' := hbr.grown hgrow hbr.size (fun m hm => (hown.lt m hm).1)
          clear hown hgrow hbr hrd hcr
          go_wp2
          go_roundw
          case rel => exact ⟨k + 1, by omega, by go_num, by rw [HE.out, List.length_append, List.map_append]; exact hown', hb'⟩
          case measure => (simp [intOf]; try omega)
        · obtain rfl : k = ls.length := by omega
          rw [List.take_length] at hown
          go_wp2
          go_ret
          exact ⟨_, rfl, hown, hbr⟩
end Go.Proofs.YtcfococinllcmaaGreat

/- lychgateref01: Right, Teams, has, Flows: contracts. -/
namespace Go.Proofs.YtcfococinllcmaaGreat
open Go.RowKit

set_option maxHeartbeats 400000 in
theorem rright_any (l : Int) (c : Nat) (w : World) :
    Calls Tryz.prog 56 #[Lab l c] w fun e w' => e = .returned (.bool (rightL l)) ∧ Below w.heap.size w w' := by
  rcases (show l < 0 ∨ (0 ≤ l ∧ l ≤ 7) ∨ 7 < l by omega) with h | ⟨h, h'⟩ | h
  all_goals
    go_enter Tryz.func56, Tryz.ntmps56
    go_wp2
    go_ret
    refine ⟨?_, by first | exact Below.refl _ _ | exact bl_drewN (Below.refl _ _) _ | exact ((Below.refl _ _).alloc (Nat.le_refl _) _)⟩
    first
      | rfl
      | (rw [show rightL l = true from decide_eq_true ⟨by omega, by omega⟩]; simp; omega)
      | (rw [show rightL l = false from decide_eq_false (by omega)]; simp; omega)
      | (rw [show rightL l = false from decide_eq_false (by omega)]; rfl)
      | (rw [show rightL l = true from decide_eq_true ⟨by omega, by omega⟩]; rfl)
def teamsI (c n : Nat) : List Int := (teamsN c n).map fun (k : Nat) => (k : Int)
theorem teamsI_step (c k : Nat) : teamsI c (k + 1) = teamsI c k ++ (if c / 2 ^ k % 2 = 1 then [(k : Int)] else []) := by
  unfold teamsI
  rw [teams_step, List.map_append]
  split <;> rfl
theorem teamsN_le (c n : Nat) : (teamsN c n).length ≤ n := by
  have := List.length_filter_le (fun k => c.testBit k) (List.range n)
  rw [List.length_range] at this
  exact this
theorem teamsI_len (c n : Nat) : (teamsI c n).length ≤ n := by unfold teamsI; rw [List.length_map]; exact teamsN_le c n
theorem mem_teamsI {c n : Nat} {k : Nat} : (k : Int) ∈ teamsI c n ↔ k ∈ teamsN c n := by
  unfold teamsI
  rw [List.mem_map]
  constructor
  · rintro ⟨m, hm, h⟩; have : m = k := by exact_mod_cast h
    rwa [← this]
  · intro h; exact ⟨k, h, rfl⟩
set_option maxHeartbeats 1600000 in
set_option maxRecDepth 100000 in
theorem teams_any (l : Int) (c : Nat) (w : World) (hc : c < 4294967296) :
    Calls Tryz.prog 61 #[Lab l c] w fun e w' => ∃ v, e = .returned v ∧ IntsAt w' v (teamsI c 32) ∧ Below w.heap.size w w' := by
  obtain ⟨i0, hi, hz0, hz1, hz2⟩ := info_parts info_int
  go_enter Tryz.func61, Tryz.ntmps61
  go_wp2
  have hb0 := alloc_below w (.cells #[.int .i64 l, .int .u32 c] 26)
  go_loopw [3, 4, 5] (fun v q i wr => ∃ (k r : Nat), i = .int .i64 k ∧ k ≤ 32 ∧ q = .int .u32 r ∧ Hid (r = c / 2 ^ k) ∧ r < 4294967296 ∧ wr.ownsRow w.heap.size 3 1 v (teamsI c k).length ((teamsI c k).map I) ∧ Below w.heap.size w wr) (fun _ _ i _ => 32 - (intOf i).toNat)
  case atStart => exact ⟨0, c, rfl, Nat.zero_le _, rfl, Lib.hid (by simp), hc, World.ownsRow_nil _ _ _ _, hb0⟩
  case round =>
    obtain ⟨k, r, rfl, hk, rfl, HR, hr, hown, hbr⟩ := hrel
    by_cases hkl : k < 32
    · have hI : (k : Int) < 32 := by omega
      have q1 : ((r : Int).tmod 2) = ((r % 2 : Nat) : Int) := by rw [Int.tmod_eq_emod_of_nonneg (by omega)]; omega
      have q2 : ((r : Int).tdiv 2) = ((r / 2 : Nat) : Int) := by rw [Int.tdiv_eq_ediv_of_nonneg (by omega)]; omega
      have q3 : IntKind.u32.wrap ((r / 2 : Nat) : Int) = ((r / 2 : Nat) : Int) := by rw [IntKind.wrap_u32']; omega
      have hstep := teamsI_step c k
      rw [← HR.out] at hstep
      have hlen := teamsI_len c k
      have hnx : Hid (r / 2 = c / 2 ^ (k + 1)) := by show _ = _; rw [HR.out, Nat.div_div_eq_div_mul, Nat.pow_succ]
      have hr2 : r / 2 < 4294967296 := by omega
      have HS := Lib.hid hstep
      have HI := Lib.hid hI
      clear hstep HR
      by_cases hodd : r % 2 = 1
      · have q4 : ((r % 2 : Nat) : Int) = 1 := by omega
        rw [q4] at q1
        clear q4
        have HOD := Lib.hid hodd
        clear hodd
        have hb1 := alloc_below wr (.cells #[I k] 3)
        have hown1 := hown.alloc (.cells #[I k] 3)
        go_wp2_with (at_builtin; (refine wpList_append_own _ rfl _ _ 32 rfl w.heap.size 3 i0 (.int .i64 0) 1 8 Tryz.underlying32 hi hz0 hz1 hz2 rfl (by decide) _ _ _ rfl hown1 ⟨wr.heap.size, 0, none⟩ 1 1 [I k] rfl rfl (cell_one_new _ _ _) (by simp [Value.oneCell']) (by unfold maxLen; omega) (by omega) (by have := hbr.size; simp; omega) ?_); intro v' w3 hown' hg3 hnil3)
        have hB3 : Below w.heap.size w w3 := (hbr.trans (hb1.mono hbr.size)).grown hg3 (by have := hbr.size; simp; omega) (fun j e => (hown1.lt j e).1)
        go_wp2
        go_roundw
        case rel => exact ⟨k + 1, r / 2, by go_num, by omega, by go_num, hnx, hr2, by rw [HS.out, if_pos HOD.out]; simpa using hown', hB3⟩
        case measure => (simp [intOf]; try omega)
      · have q4 : ((r % 2 : Nat) : Int) = 0 := by omega
        rw [q4] at q1
        clear q4
        have HOD := Lib.hid hodd
        clear hodd
        go_wp2
        go_roundw
        case rel => exact ⟨k + 1, r / 2, by go_num, by omega, by go_num, hnx, hr2, by rw [HS.out, if_neg HOD.out, List.append_nil]; exact hown, hbr⟩
        case measure => (simp [intOf]; try omega)
    · obtain rfl : k = 32 := by omega
      have hI : ¬ (((32 : Nat) : Int) < 32) := by decide
      rw [show ((32 : Nat) : Int) = 32 from rfl]
      go_wp2
      go_ret
      exact ⟨_, rfl, RdAt.own hown, hbr⟩
set_option maxHeartbeats 800000 in
theorem has_any (xs : List Int) (k : Int) (v : Value) (w : World) (hv : IntsAt w v xs) (hl : xs.length ≤ 1000) :
    Calls Tryz.prog 62 #[v, .int .i64 k] w fun e w' => e = .returned (.bool (decide (k ∈ xs))) ∧ Below w.heap.size w w' := by
  obtain ⟨a, c, rfl, hc, hr⟩ := RdAt.shape hv
  have HR := Lib.hid hr
  clear hr hv
  go_enter Tryz.func62, Tryz.ntmps62
  go_wp2
  go_loopw [5] (fun i wr => ∃ j : Nat, i = .int .i64 j ∧ j ≤ xs.length ∧ Hid (k ∉ xs.take j) ∧ Below w.heap.size w wr) (fun i _ => xs.length - (intOf i).toNat)
  case atStart => exact ⟨0, rfl, Nat.zero_le _, Lib.hid (by simp), Below.refl _ _⟩
  case round =>
    obtain ⟨j, rfl, hj, HN, hbr⟩ := hrel
    by_cases hjl : j < xs.length
    · obtain ⟨b, o, rfl, hb, hcell⟩ := HR.out (by omega)
      obtain ⟨x, hx⟩ : ∃ x, xs[j] = x := ⟨_, rfl⟩
      have hc0 : wr.cell? ⟨b, o + j, none⟩ = some (.int .i64 x) := keep_cell (hcell j _ (by rw [List.getElem?_map, List.getElem?_eq_getElem hjl, hx]; rfl)) hbr hb
      have HX := Lib.hid hx
      clear hcell hx
      by_cases hxk : x = k
      · subst hxk
        go_wp2
        go_ret
        exact ⟨by rw [decide_eq_true (by rw [← HX.out]; exact List.getElem_mem hjl)]; rfl, hbr⟩
      · have hz : (x == k) = false := by rw [beq_eq_false_iff_ne]; exact hxk
        go_wp2
        go_roundw
        case rel => exact ⟨j + 1, by go_num, by omega, Lib.hid (by
          rw [List.take_succ_eq_append_getElem hjl, List.mem_append, HX.out]
          rintro (h | h)
          · exact HN.out h
          · exact hxk (List.mem_singleton.1 h).symm), hbr⟩
        case measure => (simp [intOf]; try omega)
    · obtain rfl : j = xs.length := by omega
      have hn := HN.out
      rw [List.take_length] at hn
      go_wp2
      go_ret
      exact ⟨by rw [decide_eq_false hn]; rfl, hbr⟩
theorem flowsL_eq (l : Int) (c : Nat) (m : Int) (d : Nat) : flowsL l c m d = (subB c d && (rightL l && rightL m && decide (l ≤ m))) := by
  unfold flowsL
  cases subB c d <;> simp
theorem sub_not {c d k : Nat} (hk : k ∈ teamsN c 32) (hn : k ∉ teamsN d 32) : subB c d = false := by
  rw [Bool.eq_false_iff]
  intro h
  exact hn (sub_iff.1 h k hk)
set_option maxHeartbeats 1600000 in
set_option maxRecDepth 100000 in
theorem rflows_any (l : Int) (c : Nat) (m : Int) (d : Nat) (w : World) (hc : c < 4294967296) (hd : d < 4294967296) :
    Calls Tryz.prog 28 #[Lab l c, Lab m d] w fun e w' => e = .returned (.bool (flowsL l c m d)) ∧ Below w.heap.size w w' := by
  have k1 := fun W => teams_any l c W hc
  have k2 := fun W => teams_any m d W hd
  have k3 := rright_any l c
  have k4 := rright_any m d
  go_enter Tryz.func28, Tryz.ntmps28
  go_wp2_with fail
  refine (k1 _).mono ?_
  rintro e w1 ⟨v1, rfl, hi1, hb1⟩
  obtain ⟨x0, x1, y0, y1, hlt, hB⟩ := box22 hb1
  obtain ⟨a, ac, rfl, hac, har⟩ := RdAt.shape hi1
  have HI := Lib.hid hi1
  have HAR := Lib.hid har
  have hlen : (teamsI c 32).length ≤ 32 := teamsI_len c 32
  have HL := Lib.hid hlt
  clear hb1 k1 har hi1 hlt
  go_wp2
  go_loopw [6] (fun i wr => ∃ k : Nat, i = .int .i64 k ∧ k ≤ (teamsI c 32).length ∧ Hid (∀ j (h : j < (teamsI c 32).length), j < k → (teamsI c 32)[j] ∈ teamsI d 32) ∧ Below w1.heap.size w1 wr) (fun i _ => (teamsI c 32).length - (intOf i).toNat)
  case atStart => exact ⟨0, rfl, Nat.zero_le _, Lib.hid (fun j h hj => absurd hj (Nat.not_lt_zero _)), Below.refl _ _⟩
  case round =>
    obtain ⟨k, rfl, hk, HA, hbr⟩ := hrel
    have HBr := Lib.hid (hB.trans (hbr.mono hB.size))
    have X0 := keep_cell x0 hbr (by have := HL.out; omega)
    have X1 := keep_cell x1 hbr (by have := HL.out; omega)
    have Y0 := keep_cell y0 hbr HL.out
    have Y1 := keep_cell y1 hbr HL.out
    by_cases hkl : k < (teamsI c 32).length
    · obtain ⟨b, o, rfl, hb, hcell⟩ := HAR.out (by omega)
      obtain ⟨x, hx⟩ : ∃ x, (teamsI c 32)[k] = x := ⟨_, rfl⟩
      have hcr : wr.cell? ⟨b, o + k, none⟩ = some (.int .i64 x) := keep_cell (hcell k _ (by rw [List.getElem?_map, List.getElem?_eq_getElem hkl, hx]; rfl)) hbr hb
      have HX := Lib.hid hx
      obtain ⟨q, hq⟩ : ∃ q, decide (x ∈ teamsI d 32) = q := ⟨_, rfl⟩
      have k5 : ∀ W v, IntsAt W v (teamsI d 32) → Calls Tryz.prog 62 #[v, .int .i64 x] W fun e w' => e = .returned (.bool q) ∧ Below W.heap.size W w' := fun W v h => by
        have := has_any (teamsI d 32) x v W h (by have := teamsI_len d 32; omega)
        rw [hq] at this
        exact this
      have HQ := Lib.hid hq
      have hYl : w.heap.size + 1 < wr.heap.size := Nat.lt_of_lt_of_le HL.out hbr.size
      have hbl : b < wr.heap.size := Nat.lt_of_lt_of_le hb hbr.size
      have HBR := Lib.hid hbr
      clear hcell hx x0 x1 X0 X1 y0 y1 hq hbr hB
      go_upto_region 5 with fail
      refine wp_region_held_drew (S := (fun W => W.cell? ⟨w.heap.size + 1, 0, none⟩ = some (.int .i64 m) ∧ W.cell? ⟨w.heap.size + 1, 1, none⟩ = some (.int .u32 d) ∧ W.cell? ⟨b, o + k, none⟩ = some (.int .i64 x))) (by kernel_rfl) ⟨Y0, Y1, hcr⟩ (fun hHeld => ?_)
      refine held_take (i := 0) (v := ?_) rfl rfl (by kernel_rfl) (by kernel_rfl) (by kernel_rfl) (fun _ _ _ h => h) (by rfl) hHeld ?_ ?_
      rotate_left
      · rintro wh ⟨z0, z1, z2⟩
        go_simp
        (try with_reducible rfl)
      simp only [Act.put, List.setIfInBounds_toArray, List.set_cons_zero, List.set_cons_succ]
      refine held_take (i := 2) (v := ?_) rfl rfl (by kernel_rfl) (by kernel_rfl) (by kernel_rfl) (fun _ _ _ h => h) (by rfl) hHeld ?_ ?_
      rotate_left
      · rintro wh ⟨z0, z1, z2⟩
        go_simp
        (try with_reducible rfl)
      simp only [Act.put, List.setIfInBounds_toArray, List.set_cons_zero, List.set_cons_succ]
      refine held_take (i := 3) (v := ?_) rfl rfl (by kernel_rfl) (by kernel_rfl) (by kernel_rfl) (fun _ _ _ h => h) (by rfl) hHeld ?_ ?_
      rotate_left
      · rintro wh ⟨z0, z1, z2⟩
        go_simp
        (try with_reducible rfl)
      simp only [Act.put, List.setIfInBounds_toArray, List.set_cons_zero, List.set_cons_succ]
      refine held_take (i := 4) (v := ?_) rfl rfl (by kernel_rfl) (by kernel_rfl) (by kernel_rfl) (fun _ _ _ h => h) (by rfl) hHeld ?_ ?_
      rotate_left
      · rintro wh ⟨z0, z1, z2⟩
        go_simp
        (try with_reducible rfl)
      simp only [Act.put, List.setIfInBounds_toArray, List.set_cons_zero, List.set_cons_succ]
      refine held_take (i := 5) (v := ?_) rfl rfl (by kernel_rfl) (by kernel_rfl) (by kernel_rfl) (fun _ _ _ h => h) (by rfl) hHeld ?_ ?_
      rotate_left
      · rintro wh ⟨z0, z1, z2⟩
        go_simp
        (try with_reducible rfl)
      simp only [Act.put, List.setIfInBounds_toArray, List.set_cons_zero, List.set_cons_succ]
      refine held_call (i := 1) rfl (by kernel_rfl) (by rfl) (fun K hK => ?_)
      (go_simp; go_at_call 61; refine (k2 _).mono ?_; rintro e w3 ⟨v3, rfl, hi3, hb3⟩; have hb3' : Below wr.heap.size wr w3 := ((Below.refl _ wr).drew).trans hb3; obtain ⟨a3, c3, rfl, _, _⟩ := RdAt.shape hi3)
      refine hK.out _ _ ⟨keep_cell Y0 hb3' hYl, keep_cell Y1 hb3' hYl, keep_cell hcr hb3' hbl⟩ (fun hHeld => ?_)
      clear hK K
      (try simp only [Act.put, List.setIfInBounds_toArray, List.set_cons_zero, List.set_cons_succ])
      refine held_call (i := 6) rfl (by kernel_rfl) (by rfl) (fun K hK => ?_)
      (go_simp; go_at_call 62; refine (k5 _ _ hi3).mono ?_; rintro e w4 ⟨rfl, hb4⟩; have hb34 := hb3'.trans (hb4.mono hb3'.size))
      refine hK.out _ _ ⟨keep_cell Y0 hb34 hYl, keep_cell Y1 hb34 hYl, keep_cell hcr hb34 hbl⟩ (fun hHeld => ?_)
      clear hK K
      (try simp only [Act.put, List.setIfInBounds_toArray, List.set_cons_zero, List.set_cons_succ])
      refine held_take (i := 7) (v := ?_) rfl rfl (by kernel_rfl) (by kernel_rfl) (by kernel_rfl) (fun _ _ _ h => h) (by rfl) hHeld ?_ ?_
      rotate_left
      · rintro wh ⟨z0, z1, z2⟩
        go_simp
        (try with_reducible rfl)
      simp only [Act.put, List.setIfInBounds_toArray, List.set_cons_zero, List.set_cons_succ]
      refine wpAnyH_done (by kernel_rfl) ?_ _
      have hB4 := HBR.out.trans (hb34.mono HBR.out.size)
      cases q
      · have hn : x ∉ teamsI d 32 := of_decide_eq_false HQ.out
        have hf : flowsL l c m d = false := by
          have hm := List.getElem_mem hkl
          rw [HX.out] at hm
          unfold teamsI at hm
          obtain ⟨t, ht, rfl⟩ := List.mem_map.1 hm
          rw [flowsL_eq, sub_not ht (fun h => hn (mem_teamsI.2 h))]; rfl
        have HF := Lib.hid hf
        clear hf hn
        go_wp2
        go_ret
        exact ⟨by rw [HF.out]; rfl, HBr.out.trans (hb34.mono HBr.out.size)⟩
      · go_wp2
        go_roundw
        case rel => exact ⟨k + 1, by go_num, by omega, Lib.hid (fun j h hj => by
          rcases Nat.lt_or_ge j k with h' | h'
          · exact HA.out j h h'
          · have : j = k := by omega
            subst this
            rw [HX.out]; exact of_decide_eq_true HQ.out), hB4⟩
        case measure => (simp [intOf]; try omega)
    · obtain rfl : k = (teamsI c 32).length := by omega
      have hsub : subB c d = true := sub_iff.2 (fun t ht => by
        have hm := mem_teamsI.2 ht
        obtain ⟨j, hj, hjt⟩ := List.getElem_of_mem hm
        have := HA.out j hj hj
        rw [hjt] at this
        exact mem_teamsI.1 this)
      have HF : Hid (flowsL l c m d = (rightL l && rightL m && decide (l ≤ m))) := by show _ = _; rw [flowsL_eq, hsub, Bool.true_and]
      have hYl : w.heap.size + 1 < wr.heap.size := Nat.lt_of_lt_of_le HL.out hbr.size
      clear hsub HA k2 x0 x1 y0 y1 hB hbr
      cases h1 : rightL l
      · rw [h1] at k3 HF
        clear h1
        go_wp2_with fail
        refine (k3 _).mono ?_
        rintro e w5 ⟨rfl, hb5⟩
        go_wp2
        go_ret
        exact ⟨by rw [HF.out]; rfl, HBr.out.trans (hb5.mono HBr.out.size)⟩
      · rw [h1] at k3 HF
        clear h1
        cases h2 : rightL m
        · rw [h2] at k4 HF
          clear h2
          go_wp2_with fail
          refine (k3 _).mono ?_
          rintro e w5 ⟨rfl, hb5⟩
          have y0 := keep_cell Y0 hb5 hYl
          have y1 := keep_cell Y1 hb5 hYl
          clear Y0 Y1 X0 X1 k3
          go_wp2_with fail
          refine (k4 _).mono ?_
          rintro e w6 ⟨rfl, hb6⟩
          have HB6 := Lib.hid (HBr.out.trans ((hb5.trans (hb6.mono hb5.size)).mono HBr.out.size))
          clear hb5 hb6 y0 y1 k4
          go_wp2
          go_ret
          exact ⟨by rw [HF.out]; rfl, HB6.out⟩
        · rw [h2] at k4 HF
          clear h2
          obtain ⟨q, hq⟩ : ∃ q, decide (l ≤ m) = q := ⟨_, rfl⟩
          have HF2 : Hid (flowsL l c m d = q) := by show _ = _; rw [HF.out, hq]; simp
          clear HF
          go_wp2_with fail
          refine (k3 _).mono ?_
          rintro e w5 ⟨rfl, hb5⟩
          have z0 := keep_cell X0 hb5 (by omega)
          have z1 := keep_cell X1 hb5 (by omega)
          have y0 := keep_cell Y0 hb5 hYl
          have y1 := keep_cell Y1 hb5 hYl
          have hl5 := Nat.lt_of_lt_of_le hYl hb5.size
          clear Y0 Y1 X0 X1 k3
          go_wp2_with fail
          refine (k4 _).mono ?_
          rintro e w6 ⟨rfl, hb6⟩
          have HB6 := Lib.hid (HBr.out.trans ((hb5.trans (hb6.mono hb5.size)).mono HBr.out.size))
          have z0' := keep_cell z0 hb6 (by omega)
          have z1' := keep_cell z1 hb6 (by omega)
          have y0' := keep_cell y0 hb6 hl5
          have y1' := keep_cell y1 hb6 hl5
          clear hb5 hb6 y0 y1 k4 z0 z1
          go_wp2
          go_ret
          exact ⟨by rw [HF2.out]; first | rfl | (rw [hq]; rfl) | (simp [hq]), HB6.out⟩
end Go.Proofs.YtcfococinllcmaaGreat

/- Several parts in one: lychgateref06.Name: a contract, the same as match.Name's. lychgateref06.Ahead, Right: contracts, the same as match's. lychgateref06.Right: a contract, the same as match.Right's. -/
namespace Go.Proofs.YtcfococinllcmaaGreat.refName
open Go.RowKit

/-- what the loop asks of the bytes that it saw -/
def clB (l : List UInt8) : Bool := !(l.head?.any fun c => digN c.toNat) && !(l.any fun c => oddN c.toNat)
theorem nameL_clB (l : List UInt8) : nameL l = (decide (1 ≤ l.length) && decide (l.length ≤ 12) && clB l) := by
  cases l with
  | nil => rfl
  | cons c l => simp [nameL, clB, Bool.and_assoc]
theorem clB_one (c : UInt8) : clB [c] = (!digN c.toNat && !oddN c.toNat) := by simp [clB]
theorem clB_snoc {l : List UInt8} (h : l ≠ []) (c : UInt8) : clB (l ++ [c]) = (clB l && !oddN c.toNat) := by
  obtain ⟨d, r, rfl⟩ := List.exists_cons_of_ne_nil h
  simp [clB, Bool.and_assoc]
theorem clB_bad {l : List UInt8} (k : Nat) (h : clB (l.take k) = false) : clB l = false := by
  cases l with
  | nil => simpa using h
  | cons c l =>
    cases k with
    | zero => cases h
    | succ k =>
      rw [List.take_succ_cons] at h
      simp only [clB, List.head?_cons, Bool.and_eq_false_iff, Bool.not_eq_false'] at *
      rcases h with h | h
      · exact .inl h
      · right
        rw [List.any_eq_true] at *
        obtain ⟨x, hx, hp⟩ := h
        refine ⟨x, ?_, hp⟩
        rcases List.mem_cons.1 hx with rfl | hx
        · exact List.mem_cons_self ..
        · exact List.mem_cons_of_mem _ (List.mem_of_mem_take hx)

set_option maxHeartbeats 1600000 in
theorem name_any (s : ByteArray) (w : World) (hs : s.size ≤ maxLen) :
    Calls Tryz.prog 55 #[.string s] w fun e w' => e = .returned (.bool (nameL (B s))) ∧ w = w' := by
  unfold maxLen at hs
  have HNL : Hid (nameL (B s) = (decide (1 ≤ s.size) && decide (s.size ≤ 12) && clB (B s))) := by show _ = _; rw [nameL_clB, len_B]
  go_enter Tryz.func55, Tryz.ntmps55
  go_wp2
  go_loop [3] (fun x => ∃ k : Nat, k ≤ s.size ∧ x = .int .i64 k ∧ Hid (clB ((B s).take k) = true)) (fun x => s.size - (intOf x).toNat)
  case atStart => exact ⟨0, Nat.zero_le _, rfl, rfl⟩
  case round =>
    obtain ⟨k, hk, rfl, HC⟩ := hrel
    by_cases hlt : k < s.size
    · have HT1 : Hid ((B s).take (k + 1) = (B s).take k ++ [s[k]]) := take_succ_B s k hlt
      have hstep : clB ((B s).take (k + 1)) = (!(oddN s[k].toNat) && !(decide (k = 0) && digN s[k].toNat)) := by
        rw [HT1.out]
        by_cases h0 : k = 0
        · subst h0
          rw [List.take_zero, List.nil_append, clB_one]
          simp [Bool.and_comm]
        · rw [clB_snoc (by
            intro e
            have := congrArg List.length e
            rw [List.length_take, len_B, List.length_nil] at this
            omega), HC.out]
          simp [h0]
      have HST := Lib.hid hstep
      clear hstep
      rcases (show (s[k].toNat : Int) < 48 ∨ ((48 : Int) ≤ (s[k].toNat : Int) ∧ (s[k].toNat : Int) ≤ 57) ∨ (57 < (s[k].toNat : Int) ∧ (s[k].toNat : Int) < 95) ∨ (s[k].toNat : Int) = 95 ∨ (s[k].toNat : Int) = 96 ∨ ((97 : Int) ≤ (s[k].toNat : Int) ∧ (s[k].toNat : Int) ≤ 122) ∨ 122 < (s[k].toNat : Int) by omega) with h | ⟨h, h'⟩ | ⟨h, h'⟩ | h | h | ⟨h, h'⟩ | h
      · have ho : oddN s[k].toNat = true := by simp [oddN]; omega
        have hd : digN s[k].toNat = false := by simp [digN]; omega
        have HO := Lib.hid ho
        have HD := Lib.hid hd
        clear ho hd
        have HR : Hid (nameL (B s) = false) := by
          show _ = _
          rw [HNL.out, clB_bad (k + 1) (by rw [HST.out, HO.out]; simp), Bool.and_false]
        clear HNL
        have e1 : ((s[k].toNat : Int) != 95) = true := by rw [bne_iff_ne]; omega
        go_wp2
        go_ret
        exact ⟨by rw [HR.out]; rfl, rfl⟩
      · have ho : oddN s[k].toNat = false := by simp [oddN]; omega
        have hd : digN s[k].toNat = true := by simp [digN]; omega
        have HO := Lib.hid ho
        have HD := Lib.hid hd
        clear ho hd
        by_cases h0 : k = 0
        · subst h0
          have HR : Hid (nameL (B s) = false) := by
            show _ = _
            rw [HNL.out, clB_bad (0 + 1) (by rw [HST.out, HO.out, HD.out]; simp), Bool.and_false]
          clear HNL
          have e1 : ((s[0].toNat : Int) != 95) = true := by rw [bne_iff_ne]; omega
          go_wp2
          go_ret
          exact ⟨by rw [HR.out]; rfl, rfl⟩
        · have hk0 : 0 < k := by omega
          have HN : Hid (clB ((B s).take (k + 1)) = true) := by show _ = _; rw [HST.out, HO.out]; simp [h0]
          have e1 : ((s[k].toNat : Int) != 95) = true := by rw [bne_iff_ne]; omega
          clear h0
          go_wp2
          go_round
          case rel => exact ⟨k + 1, by omega, by go_num, HN⟩
          case measure => simp [intOf]; omega
      · have ho : oddN s[k].toNat = true := by simp [oddN]; omega
        have hd : digN s[k].toNat = false := by simp [digN]; omega
        have HO := Lib.hid ho
        have HD := Lib.hid hd
        clear ho hd
        have HR : Hid (nameL (B s) = false) := by
          show _ = _
          rw [HNL.out, clB_bad (k + 1) (by rw [HST.out, HO.out]; simp), Bool.and_false]
        clear HNL
        have e1 : ((s[k].toNat : Int) != 95) = true := by rw [bne_iff_ne]; omega
        go_wp2
        go_ret
        exact ⟨by rw [HR.out]; rfl, rfl⟩
      · have ho : oddN s[k].toNat = false := by simp [oddN]; omega
        have hd : digN s[k].toNat = false := by simp [digN]; omega
        have HO := Lib.hid ho
        have HD := Lib.hid hd
        clear ho hd
        have HN : Hid (clB ((B s).take (k + 1)) = true) := by show _ = _; rw [HST.out, HO.out, HD.out]; simp
        have e1 : ((s[k].toNat : Int) != 95) = false := by rw [bne_eq_false_iff_eq]; omega
        have e2 : (s[k].toNat : Int) < 97 := by omega
        clear h
        go_wp2
        go_round
        case rel => exact ⟨k + 1, by omega, by go_num, HN⟩
        case measure => simp [intOf]; omega
      · have ho : oddN s[k].toNat = true := by simp [oddN]; omega
        have hd : digN s[k].toNat = false := by simp [digN]; omega
        have HO := Lib.hid ho
        have HD := Lib.hid hd
        clear ho hd
        have HR : Hid (nameL (B s) = false) := by
          show _ = _
          rw [HNL.out, clB_bad (k + 1) (by rw [HST.out, HO.out]; simp), Bool.and_false]
        clear HNL
        have e1 : ((s[k].toNat : Int) != 95) = true := by rw [bne_iff_ne]; omega
        have e2 : (s[k].toNat : Int) < 97 := by omega
        have e3 : 57 < (s[k].toNat : Int) := by omega
        clear h
        go_wp2
        go_ret
        exact ⟨by rw [HR.out]; rfl, rfl⟩
      · have ho : oddN s[k].toNat = false := by simp [oddN]; omega
        have hd : digN s[k].toNat = false := by simp [digN]; omega
        have HO := Lib.hid ho
        have HD := Lib.hid hd
        clear ho hd
        have HN : Hid (clB ((B s).take (k + 1)) = true) := by show _ = _; rw [HST.out, HO.out, HD.out]; simp
        go_wp2
        go_round
        case rel => exact ⟨k + 1, by omega, by go_num, HN⟩
        case measure => simp [intOf]; omega
      · have ho : oddN s[k].toNat = true := by simp [oddN]; omega
        have hd : digN s[k].toNat = false := by simp [digN]; omega
        have HO := Lib.hid ho
        have HD := Lib.hid hd
        clear ho hd
        have HR : Hid (nameL (B s) = false) := by
          show _ = _
          rw [HNL.out, clB_bad (k + 1) (by rw [HST.out, HO.out]; simp), Bool.and_false]
        clear HNL
        have e1 : ((s[k].toNat : Int) != 95) = true := by rw [bne_iff_ne]; omega
        have e4 : decide ((s[k].toNat : Int) ≤ 122) = false := by rw [decide_eq_false_iff_not]; omega
        go_wp2
        go_ret
        exact ⟨by rw [HR.out]; rfl, rfl⟩
    · obtain rfl : k = s.size := by omega
      have HC' : Hid (clB (B s) = true) := by
        have := HC.out
        rw [take_all_B] at this
        exact this
      clear HC
      by_cases h1 : 1 ≤ (s.size : Int)
      · by_cases h2 : (s.size : Int) ≤ 12
        · have HR : Hid (nameL (B s) = true) := by
            show _ = _
            rw [HNL.out, HC'.out, decide_eq_true (by omega), decide_eq_true (by omega)]; rfl
          clear HNL
          go_wp2
          go_ret
          exact ⟨by rw [HR.out]; rfl, rfl⟩
        · have HR : Hid (nameL (B s) = false) := by
            show _ = _
            rw [HNL.out, decide_eq_false (p := s.size ≤ 12) (by omega)]; simp
          clear HNL
          go_wp2
          go_ret
          exact ⟨by rw [HR.out]; rfl, rfl⟩
      · have HR : Hid (nameL (B s) = false) := by
          show _ = _
          rw [HNL.out, decide_eq_false (p := 1 ≤ s.size) (by omega)]; simp
        clear HNL
        go_wp2
        go_ret
        exact ⟨by rw [HR.out]; rfl, rfl⟩
end Go.Proofs.YtcfococinllcmaaGreat.refName
namespace Go.Proofs.YtcfococinllcmaaGreat
open Go.RowKit

theorem less_at {a b : List UInt8} : ∀ (k : Nat) (ha : k < a.length) (hb : k < b.length), a.take k = b.take k → a[k] ≠ b[k] → Op.bytesLess a b = decide (a[k] < b[k]) := by
  intro k
  induction k generalizing a b with
  | zero =>
    intro ha hb _ hne
    obtain ⟨x, a, rfl⟩ := List.exists_cons_of_length_pos ha
    obtain ⟨y, b, rfl⟩ := List.exists_cons_of_length_pos hb
    simp only [List.getElem_cons_zero] at hne ⊢
    have h1 : (x == y) = false := by rw [beq_eq_false_iff_ne]; exact hne
    simp [Op.bytesLess, h1]
  | succ k ih =>
    intro ha hb ht hne
    obtain ⟨x, a, rfl⟩ := List.exists_cons_of_length_pos (Nat.lt_of_le_of_lt (Nat.zero_le _) ha)
    obtain ⟨y, b, rfl⟩ := List.exists_cons_of_length_pos (Nat.lt_of_le_of_lt (Nat.zero_le _) hb)
    simp only [List.take_succ_cons, List.cons.injEq] at ht
    obtain ⟨rfl, ht⟩ := ht
    simp only [List.getElem_cons_succ] at hne ⊢
    have := ih (by simpa using ha) (by simpa using hb) ht hne
    simp [Op.bytesLess, this]
theorem less_end {a b : List UInt8} : ∀ (k : Nat), a.take k = b.take k → (k = a.length ∧ k ≤ b.length ∨ k = b.length ∧ k ≤ a.length) → Op.bytesLess a b = decide (a.length < b.length) := by
  intro k
  induction k generalizing a b with
  | zero =>
    intro _ h
    rcases h with ⟨h, _⟩ | ⟨h, _⟩
    · have : a = [] := List.length_eq_zero_iff.1 h.symm
      subst this
      cases b <;> simp [Op.bytesLess]
    · have : b = [] := List.length_eq_zero_iff.1 h.symm
      subst this
      cases a <;> simp [Op.bytesLess]
  | succ k ih =>
    intro ht h
    have ha : 0 < a.length := by omega
    have hb : 0 < b.length := by omega
    obtain ⟨x, a, rfl⟩ := List.exists_cons_of_length_pos ha
    obtain ⟨y, b, rfl⟩ := List.exists_cons_of_length_pos hb
    simp only [List.take_succ_cons, List.cons.injEq] at ht
    obtain ⟨rfl, ht⟩ := ht
    simp only [List.length_cons] at h ⊢
    have := ih ht (by omega)
    simp [Op.bytesLess, this]
theorem B_at (s : ByteArray) (k : Nat) (h : k < s.size) (h' : k < (B s).length) : (B s)[k] = s[k] := by
  have h1 := take_succ_B s k h
  rw [List.take_succ_eq_append_getElem h'] at h1
  have := List.append_cancel_left h1
  simpa using this
set_option maxHeartbeats 1600000 in
set_option maxRecDepth 100000 in
theorem rahead_any (a b : ByteArray) (w : World) (ha : a.size ≤ maxLen) :
    Calls Tryz.prog 125 #[.string a, .string b] w fun e w' => e = .returned (.bool (ltS a b)) ∧ Below w.heap.size w w' := by
  unfold maxLen at ha
  have HL : Hid (ltS a b = Op.bytesLess (B a) (B b)) := by show _ = _; unfold ltS; rw [toList_B, toList_B]
  go_enter Tryz.func125, Tryz.ntmps125
  go_wp2
  go_loopw [5] (fun i wr => ∃ k : Nat, k ≤ a.size ∧ k ≤ b.size ∧ i = .int .i64 k ∧ Hid ((B a).take k = (B b).take k) ∧ Below w.heap.size w wr) (fun i _ => a.size - (intOf i).toNat)
  case atStart => exact ⟨0, Nat.zero_le _, Nat.zero_le _, rfl, Lib.hid rfl, Below.refl _ _⟩
  case round =>
    obtain ⟨k, hk1, hk2, rfl, HT, hbr⟩ := hrel
    by_cases h1 : k < a.size
    · by_cases h2 : k < b.size
      · obtain ⟨x, hx⟩ : ∃ x, a[k] = x := ⟨_, rfl⟩
        obtain ⟨y, hy⟩ : ∃ y, b[k] = y := ⟨_, rfl⟩
        have l1 : k < (B a).length := by rw [len_B]; exact h1
        have l2 : k < (B b).length := by rw [len_B]; exact h2
        by_cases hxy : x = y
        · have HN : Hid ((B a).take (k + 1) = (B b).take (k + 1)) := take_step HT.out l1 l2 (by rw [B_at a k h1 l1, B_at b k h2 l2, hx, hy, hxy])
          have hne : ((x.toNat : Int) != (y.toNat : Int)) = false := by rw [hxy]; simp
          clear l1 l2 hxy
          go_wp2
          go_quiet (fail)
          have hb2 : Below w.heap.size w (wr.drewN nq) := bl_drewN hbr nq
          generalize wr.drewN nq = wq at *
          go_wp2
          go_roundw
          case rel => exact ⟨k + 1, by omega, by omega, by go_num, HN, hb2⟩
          case measure => simp [intOf]; omega
        · have hr : ltS a b = decide (x < y) := by
            rw [HL.out, less_at k l1 l2 HT.out (by rw [B_at a k h1 l1, B_at b k h2 l2, hx, hy]; exact hxy), B_at a k h1 l1, B_at b k h2 l2, hx, hy]
          have HR := Lib.hid hr
          have hne : ((x.toNat : Int) != (y.toNat : Int)) = true := by
            rw [bne_iff_ne]; intro h; exact hxy (UInt8.toNat_inj.1 (by omega))
          clear l1 l2 hxy hr
          go_wp2
          go_quiet (fail)
          have hb2 : Below w.heap.size w (wr.drewN nq) := bl_drewN hbr nq
          generalize wr.drewN nq = wq at *
          clear nq
          go_wp2
          go_quiet (fail)
          have hb3 : Below w.heap.size w (wq.drewN nq) := bl_drewN hb2 nq
          generalize wq.drewN nq = wz at *
          go_wp2
          go_ret
          exact ⟨by rw [HR.out]; simp [UInt8.lt_iff_toNat_lt], hb3⟩
      · obtain rfl : k = b.size := by omega
        have hr : ltS a b = decide ((B a).length < (B b).length) := by rw [HL.out]; exact less_end b.size HT.out (.inr ⟨(len_B b).symm, by rw [len_B]; exact hk1⟩)
        rw [len_B, len_B] at hr
        have HR := Lib.hid hr
        clear hr
        go_wp2
        go_ret
        exact ⟨by rw [HR.out]; simp, hbr⟩
    · obtain rfl : k = a.size := by omega
      have hr : ltS a b = decide ((B a).length < (B b).length) := by rw [HL.out]; exact less_end a.size HT.out (.inl ⟨(len_B a).symm, by rw [len_B]; exact hk2⟩)
      rw [len_B, len_B] at hr
      have HR := Lib.hid hr
      clear hr
      go_wp2
      go_ret
      exact ⟨by rw [HR.out]; simp, hbr⟩
end Go.Proofs.YtcfococinllcmaaGreat
namespace Go.Proofs.YtcfococinllcmaaGreat
open Go.RowKit

set_option maxHeartbeats 3200000 in
set_option maxRecDepth 100000 in
theorem rright6_any (l : List Fld) (w : World) (v : Value) (hv : FldsAt w v l) (hf : FldsFit l) (hl : l.length ≤ maxLen) :
    Calls Tryz.prog 103 #[v] w fun e w' => e = .returned (.bool (rightF l)) ∧ Below w.heap.size w w' := by
  unfold maxLen at hl
  obtain ⟨a, c, rfl, hc, hr⟩ := RdAt.shape hv
  have HR := Lib.hid hr
  have HF := Lib.hid hf
  clear hr hv hf
  go_enter Tryz.func103, Tryz.ntmps103
  go_wp2
  go_loopw [3] (fun i wr => ∃ k : Nat, k ≤ l.length ∧ i = .int .i64 k ∧ Hid (∀ j, j < k → fldOk l j = true) ∧ Below w.heap.size w wr) (fun i _ => l.length - (intOf i).toNat)
  case atStart => exact ⟨0, Nat.zero_le _, rfl, Lib.hid (fun j hj => absurd hj (Nat.not_lt_zero j)), Below.refl _ _⟩
  case round =>
    obtain ⟨k, hk, rfl, HT, hbr⟩ := hrel
    by_cases hkl : k < l.length
    · obtain ⟨b, o, rfl, hb, hcell⟩ := HR.out (by omega)
      obtain ⟨x, hxe⟩ : ∃ x, l[k].1 = x := ⟨_, rfl⟩
      obtain ⟨y, hye⟩ : ∃ y, l[k].2 = y := ⟨_, rfl⟩
      have hfs := HF.out _ (List.getElem_mem hkl)
      rw [hxe, hye] at hfs
      obtain ⟨hx0, hy0⟩ := fldCells_at l k hkl
      rw [hxe] at hx0
      rw [hye] at hy0
      have a0 : wr.cell? ⟨b, o + k * 2, none⟩ = some (.string x) := keep_cell (hcell _ _ hx0) hbr hb
      have a1 : wr.cell? ⟨b, o + k * 2 + 1, none⟩ = some (.string y) := keep_cell (by have := hcell _ _ hy0; rwa [← Nat.add_assoc] at this) hbr hb
      have hwb : b < wr.heap.size := Nat.lt_of_lt_of_le hb hbr.size
      have hall : ∀ j v, (fldCells l)[j]? = some v → wr.cell? ⟨b, o + j, none⟩ = some v := fun j v hj => keep_cell (hcell _ _ hj) hbr hb
      have hn : ∀ W, Calls Tryz.prog 55 #[.string x] W fun e w' => e = .returned (.bool (nameL (B x))) ∧ w' = W := fun W => (refName.name_any x W hfs.1).mono (by rintro e w' ⟨h1, h2⟩; exact ⟨h1, h2.symm⟩)
      have hys : y.size ≤ 9223372036854775807 := by have := hfs.2; unfold maxLen at this; omega
      have hstep : fldOk l k = true → Hid (∀ j, j < k + 1 → fldOk l j = true) := fun h => Lib.hid (fun j hj => by
        rcases Nat.lt_or_ge j k with h' | h'
        · exact HT.out j h'
        · obtain rfl : j = k := by omega
          exact h)
      have hbad : fldOk l k = false → Hid (rightF l = false) := fun h => rightF_bad hkl h
      have hgx : l.getD k default = (x, y) := by rw [List.getD_eq_getElem?_getD, List.getElem?_eq_getElem hkl]; show l[k] = _; rw [← hxe, ← hye]
      unfold fldOk at hstep hbad
      rw [hgx] at hstep hbad
      clear hcell hx0 hy0 hxe hye hgx HT
      cases hnm : nameL (B x)
      · have HZ := hbad (by rw [hnm]; rfl)
        rw [hnm] at hn
        clear hstep hbad hall hnm hfs
        go_upto_region 4 with fail
        refine wp_region_held_drew (S := (fun W => W.cell? ⟨b, o + k * 2, none⟩ = some (.string x) ∧ W.cell? ⟨b, o + k * 2 + 1, none⟩ = some (.string y))) (by kernel_rfl) ⟨a0, a1⟩ (fun hHeld => ?_)
        refine held_take (i := 0) (v := ?_) rfl rfl (by kernel_rfl) (by kernel_rfl) (by kernel_rfl) (fun _ _ _ h => h) (by rfl) hHeld ?_ ?_
        rotate_left
        · rintro wh ⟨z0, z1⟩
          go_simp
          (try with_reducible rfl)
        simp only [Act.put, List.setIfInBounds_toArray, List.set_cons_zero, List.set_cons_succ]
        refine held_take (i := 1) (v := ?_) rfl rfl (by kernel_rfl) (by kernel_rfl) (by kernel_rfl) (fun _ _ _ h => h) (by rfl) hHeld ?_ ?_
        rotate_left
        · rintro wh ⟨z0, z1⟩
          go_simp
          (try with_reducible rfl)
        simp only [Act.put, List.setIfInBounds_toArray, List.set_cons_zero, List.set_cons_succ]
        refine held_take (i := 2) (v := ?_) rfl rfl (by kernel_rfl) (by kernel_rfl) (by kernel_rfl) (fun _ _ _ h => h) (by rfl) hHeld ?_ ?_
        rotate_left
        · rintro wh ⟨z0, z1⟩
          go_simp
          (try with_reducible rfl)
        simp only [Act.put, List.setIfInBounds_toArray, List.set_cons_zero, List.set_cons_succ]
        refine held_take (i := 3) (v := ?_) rfl rfl (by kernel_rfl) (by kernel_rfl) (by kernel_rfl) (fun _ _ _ h => h) (by rfl) hHeld ?_ ?_
        rotate_left
        · rintro wh ⟨z0, z1⟩
          go_simp
          (try with_reducible rfl)
        simp only [Act.put, List.setIfInBounds_toArray, List.set_cons_zero, List.set_cons_succ]
        refine held_take (i := 4) (v := ?_) rfl rfl (by kernel_rfl) (by kernel_rfl) (by kernel_rfl) (fun _ _ _ h => h) (by rfl) hHeld ?_ ?_
        rotate_left
        · rintro wh ⟨z0, z1⟩
          go_simp
          (try with_reducible rfl)
        simp only [Act.put, List.setIfInBounds_toArray, List.set_cons_zero, List.set_cons_succ]
        refine held_call (i := 5) rfl (by kernel_rfl) (by rfl) (fun K hK => ?_)
        (go_simp; go_at_call 55; refine (hn _).mono ?_; rintro e w1 ⟨rfl, rfl⟩; have hB1 : Below wr.heap.size wr wr.drew := (Below.refl _ _).drew)
        refine hK.out _ _ ⟨keep_cell a0 hB1 hwb, keep_cell a1 hB1 hwb⟩ (fun hHeld => ?_)
        clear hK K
        (try simp only [Act.put, List.setIfInBounds_toArray, List.set_cons_zero, List.set_cons_succ])
        refine held_take (i := 6) (v := ?_) rfl rfl (by kernel_rfl) (by kernel_rfl) (by kernel_rfl) (fun _ _ _ h => h) (by rfl) hHeld ?_ ?_
        rotate_left
        · rintro wh ⟨z0, z1⟩
          go_simp
          (try with_reducible rfl)
        simp only [Act.put, List.setIfInBounds_toArray, List.set_cons_zero, List.set_cons_succ]
        refine held_take (i := 7) (v := ?_) rfl rfl (by kernel_rfl) (by kernel_rfl) (by kernel_rfl) (fun _ _ _ h => h) (by rfl) hHeld ?_ ?_
        rotate_left
        · rintro wh ⟨z0, z1⟩
          go_simp
          (try with_reducible rfl)
        simp only [Act.put, List.setIfInBounds_toArray, List.set_cons_zero, List.set_cons_succ]
        refine held_skip (i := 8) rfl rfl (by kernel_rfl) (by kernel_rfl) (by kernel_rfl) (fun _ _ _ h => h) (by rfl) hHeld ?_
        simp only [Act.put, List.setIfInBounds_toArray, List.set_cons_zero, List.set_cons_succ]
        refine held_skip (i := 9) rfl rfl (by kernel_rfl) (by kernel_rfl) (by kernel_rfl) (fun _ _ _ h => h) (by rfl) hHeld ?_
        simp only [Act.put, List.setIfInBounds_toArray, List.set_cons_zero, List.set_cons_succ]
        refine held_skip (i := 10) rfl rfl (by kernel_rfl) (by kernel_rfl) (by kernel_rfl) (fun _ _ _ h => h) (by rfl) hHeld ?_
        simp only [Act.put, List.setIfInBounds_toArray, List.set_cons_zero, List.set_cons_succ]
        refine held_skip (i := 11) rfl rfl (by kernel_rfl) (by kernel_rfl) (by kernel_rfl) (fun _ _ _ h => h) (by rfl) hHeld ?_
        simp only [Act.put, List.setIfInBounds_toArray, List.set_cons_zero, List.set_cons_succ]
        refine held_skip (i := 12) rfl rfl (by kernel_rfl) (by kernel_rfl) (by kernel_rfl) (fun _ _ _ h => h) (by rfl) hHeld ?_
        simp only [Act.put, List.setIfInBounds_toArray, List.set_cons_zero, List.set_cons_succ]
        refine held_skip (i := 13) rfl rfl (by kernel_rfl) (by kernel_rfl) (by kernel_rfl) (fun _ _ _ h => h) (by rfl) hHeld ?_
        simp only [Act.put, List.setIfInBounds_toArray, List.set_cons_zero, List.set_cons_succ]
        refine held_skip (i := 14) rfl rfl (by kernel_rfl) (by kernel_rfl) (by kernel_rfl) (fun _ _ _ h => h) (by rfl) hHeld ?_
        simp only [Act.put, List.setIfInBounds_toArray, List.set_cons_zero, List.set_cons_succ]
        refine held_take (i := 15) (v := ?_) rfl rfl (by kernel_rfl) (by kernel_rfl) (by kernel_rfl) (fun _ _ _ h => h) (by rfl) hHeld ?_ ?_
        rotate_left
        · rintro wh ⟨z0, z1⟩
          go_simp
          (try with_reducible rfl)
        simp only [Act.put, List.setIfInBounds_toArray, List.set_cons_zero, List.set_cons_succ]
        refine held_take (i := 16) (v := ?_) rfl rfl (by kernel_rfl) (by kernel_rfl) (by kernel_rfl) (fun _ _ _ h => h) (by rfl) hHeld ?_ ?_
        rotate_left
        · rintro wh ⟨z0, z1⟩
          go_simp
          (try with_reducible rfl)
        simp only [Act.put, List.setIfInBounds_toArray, List.set_cons_zero, List.set_cons_succ]
        refine held_skip (i := 17) rfl rfl (by kernel_rfl) (by kernel_rfl) (by kernel_rfl) (fun _ _ _ h => h) (by rfl) hHeld ?_
        simp only [Act.put, List.setIfInBounds_toArray, List.set_cons_zero, List.set_cons_succ]
        refine held_skip (i := 18) rfl rfl (by kernel_rfl) (by kernel_rfl) (by kernel_rfl) (fun _ _ _ h => h) (by rfl) hHeld ?_
        simp only [Act.put, List.setIfInBounds_toArray, List.set_cons_zero, List.set_cons_succ]
        refine held_skip (i := 19) rfl rfl (by kernel_rfl) (by kernel_rfl) (by kernel_rfl) (fun _ _ _ h => h) (by rfl) hHeld ?_
        simp only [Act.put, List.setIfInBounds_toArray, List.set_cons_zero, List.set_cons_succ]
        refine held_skip (i := 20) rfl rfl (by kernel_rfl) (by kernel_rfl) (by kernel_rfl) (fun _ _ _ h => h) (by rfl) hHeld ?_
        simp only [Act.put, List.setIfInBounds_toArray, List.set_cons_zero, List.set_cons_succ]
        refine held_skip (i := 21) rfl rfl (by kernel_rfl) (by kernel_rfl) (by kernel_rfl) (fun _ _ _ h => h) (by rfl) hHeld ?_
        simp only [Act.put, List.setIfInBounds_toArray, List.set_cons_zero, List.set_cons_succ]
        refine held_skip (i := 22) rfl rfl (by kernel_rfl) (by kernel_rfl) (by kernel_rfl) (fun _ _ _ h => h) (by rfl) hHeld ?_
        simp only [Act.put, List.setIfInBounds_toArray, List.set_cons_zero, List.set_cons_succ]
        refine held_skip (i := 23) rfl rfl (by kernel_rfl) (by kernel_rfl) (by kernel_rfl) (fun _ _ _ h => h) (by rfl) hHeld ?_
        simp only [Act.put, List.setIfInBounds_toArray, List.set_cons_zero, List.set_cons_succ]
        refine held_skip (i := 24) rfl rfl (by kernel_rfl) (by kernel_rfl) (by kernel_rfl) (fun _ _ _ h => h) (by rfl) hHeld ?_
        simp only [Act.put, List.setIfInBounds_toArray, List.set_cons_zero, List.set_cons_succ]
        refine held_skip (i := 25) rfl rfl (by kernel_rfl) (by kernel_rfl) (by kernel_rfl) (fun _ _ _ h => h) (by rfl) hHeld ?_
        simp only [Act.put, List.setIfInBounds_toArray, List.set_cons_zero, List.set_cons_succ]
        refine held_skip (i := 26) rfl rfl (by kernel_rfl) (by kernel_rfl) (by kernel_rfl) (fun _ _ _ h => h) (by rfl) hHeld ?_
        simp only [Act.put, List.setIfInBounds_toArray, List.set_cons_zero, List.set_cons_succ]
        refine held_skip (i := 27) rfl rfl (by kernel_rfl) (by kernel_rfl) (by kernel_rfl) (fun _ _ _ h => h) (by rfl) hHeld ?_
        simp only [Act.put, List.setIfInBounds_toArray, List.set_cons_zero, List.set_cons_succ]
        refine held_skip (i := 28) rfl rfl (by kernel_rfl) (by kernel_rfl) (by kernel_rfl) (fun _ _ _ h => h) (by rfl) hHeld ?_
        simp only [Act.put, List.setIfInBounds_toArray, List.set_cons_zero, List.set_cons_succ]
        refine held_skip (i := 29) rfl rfl (by kernel_rfl) (by kernel_rfl) (by kernel_rfl) (fun _ _ _ h => h) (by rfl) hHeld ?_
        simp only [Act.put, List.setIfInBounds_toArray, List.set_cons_zero, List.set_cons_succ]
        refine held_skip (i := 30) rfl rfl (by kernel_rfl) (by kernel_rfl) (by kernel_rfl) (fun _ _ _ h => h) (by rfl) hHeld ?_
        simp only [Act.put, List.setIfInBounds_toArray, List.set_cons_zero, List.set_cons_succ]
        refine held_skip (i := 31) rfl rfl (by kernel_rfl) (by kernel_rfl) (by kernel_rfl) (fun _ _ _ h => h) (by rfl) hHeld ?_
        simp only [Act.put, List.setIfInBounds_toArray, List.set_cons_zero, List.set_cons_succ]
        refine held_skip (i := 32) rfl rfl (by kernel_rfl) (by kernel_rfl) (by kernel_rfl) (fun _ _ _ h => h) (by rfl) hHeld ?_
        simp only [Act.put, List.setIfInBounds_toArray, List.set_cons_zero, List.set_cons_succ]
        refine held_skip (i := 33) rfl rfl (by kernel_rfl) (by kernel_rfl) (by kernel_rfl) (fun _ _ _ h => h) (by rfl) hHeld ?_
        simp only [Act.put, List.setIfInBounds_toArray, List.set_cons_zero, List.set_cons_succ]
        refine held_take (i := 34) (v := ?_) rfl rfl (by kernel_rfl) (by kernel_rfl) (by kernel_rfl) (fun _ _ _ h => h) (by rfl) hHeld ?_ ?_
        rotate_left
        · rintro wh ⟨z0, z1⟩
          go_simp
          (try with_reducible rfl)
        simp only [Act.put, List.setIfInBounds_toArray, List.set_cons_zero, List.set_cons_succ]
        refine wpAnyH_done (by kernel_rfl) ?_ _
        have hbn : Below w.heap.size w wr.drew := hbr.trans (hB1.mono hbr.size)
        clear hB1 hn
        generalize wr.drew = wq at *
        go_wp2
        go_ret
        exact ⟨by rw [HZ.out]; rfl, hbn⟩
      · rw [hnm] at hn
        by_cases hy2 : y.size ≤ 200
        · have g1 : decide ((200 : Int) < (y.size : Int)) = false := decide_eq_false (by omega)
          rcases Nat.eq_zero_or_pos k with hk0 | hk0
          · have HN := hstep (by rw [hnm, decide_eq_true hy2, decide_eq_true hk0]; rfl)
            subst hk0
            rw [Nat.zero_mul, Nat.add_zero] at a0 a1
            clear hstep hbad hall hnm hy2 hfs
            go_upto_region 4 with fail
            refine wp_region_held_drew (S := (fun W => W.cell? ⟨b, o, none⟩ = some (.string x) ∧ W.cell? ⟨b, o + 1, none⟩ = some (.string y))) (by kernel_rfl) ⟨a0, a1⟩ (fun hHeld => ?_)
            refine held_take (i := 0) (v := ?_) rfl rfl (by kernel_rfl) (by kernel_rfl) (by kernel_rfl) (fun _ _ _ h => h) (by rfl) hHeld ?_ ?_
            rotate_left
            · rintro wh ⟨z0, z1⟩
              go_simp
              (try with_reducible rfl)
            simp only [Act.put, List.setIfInBounds_toArray, List.set_cons_zero, List.set_cons_succ]
            refine held_take (i := 1) (v := ?_) rfl rfl (by kernel_rfl) (by kernel_rfl) (by kernel_rfl) (fun _ _ _ h => h) (by rfl) hHeld ?_ ?_
            rotate_left
            · rintro wh ⟨z0, z1⟩
              go_simp
              (try with_reducible rfl)
            simp only [Act.put, List.setIfInBounds_toArray, List.set_cons_zero, List.set_cons_succ]
            refine held_take (i := 2) (v := ?_) rfl rfl (by kernel_rfl) (by kernel_rfl) (by kernel_rfl) (fun _ _ _ h => h) (by rfl) hHeld ?_ ?_
            rotate_left
            · rintro wh ⟨z0, z1⟩
              go_simp
              (try with_reducible rfl)
            simp only [Act.put, List.setIfInBounds_toArray, List.set_cons_zero, List.set_cons_succ]
            refine held_take (i := 3) (v := ?_) rfl rfl (by kernel_rfl) (by kernel_rfl) (by kernel_rfl) (fun _ _ _ h => h) (by rfl) hHeld ?_ ?_
            rotate_left
            · rintro wh ⟨z0, z1⟩
              go_simp
              (try with_reducible rfl)
            simp only [Act.put, List.setIfInBounds_toArray, List.set_cons_zero, List.set_cons_succ]
            refine held_take (i := 4) (v := ?_) rfl rfl (by kernel_rfl) (by kernel_rfl) (by kernel_rfl) (fun _ _ _ h => h) (by rfl) hHeld ?_ ?_
            rotate_left
            · rintro wh ⟨z0, z1⟩
              go_simp
              (try with_reducible rfl)
            simp only [Act.put, List.setIfInBounds_toArray, List.set_cons_zero, List.set_cons_succ]
            refine held_call (i := 5) rfl (by kernel_rfl) (by rfl) (fun K hK => ?_)
            (go_simp; go_at_call 55; refine (hn _).mono ?_; rintro e w1 ⟨rfl, rfl⟩; have hB1 : Below wr.heap.size wr wr.drew := (Below.refl _ _).drew)
            refine hK.out _ _ ⟨keep_cell a0 hB1 hwb, keep_cell a1 hB1 hwb⟩ (fun hHeld => ?_)
            clear hK K
            (try simp only [Act.put, List.setIfInBounds_toArray, List.set_cons_zero, List.set_cons_succ])
            refine held_take (i := 6) (v := ?_) rfl rfl (by kernel_rfl) (by kernel_rfl) (by kernel_rfl) (fun _ _ _ h => h) (by rfl) hHeld ?_ ?_
            rotate_left
            · rintro wh ⟨z0, z1⟩
              go_simp
              (try with_reducible rfl)
            simp only [Act.put, List.setIfInBounds_toArray, List.set_cons_zero, List.set_cons_succ]
            refine held_take (i := 7) (v := ?_) rfl rfl (by kernel_rfl) (by kernel_rfl) (by kernel_rfl) (fun _ _ _ h => h) (by rfl) hHeld ?_ ?_
            rotate_left
            · rintro wh ⟨z0, z1⟩
              go_simp
              (try with_reducible rfl)
            simp only [Act.put, List.setIfInBounds_toArray, List.set_cons_zero, List.set_cons_succ]
            refine held_take (i := 8) (v := ?_) rfl rfl (by kernel_rfl) (by kernel_rfl) (by kernel_rfl) (fun _ _ _ h => h) (by rfl) hHeld ?_ ?_
            rotate_left
            · rintro wh ⟨z0, z1⟩
              go_simp
              (try with_reducible rfl)
            simp only [Act.put, List.setIfInBounds_toArray, List.set_cons_zero, List.set_cons_succ]
            refine held_take (i := 9) (v := ?_) rfl rfl (by kernel_rfl) (by kernel_rfl) (by kernel_rfl) (fun _ _ _ h => h) (by rfl) hHeld ?_ ?_
            rotate_left
            · rintro wh ⟨z0, z1⟩
              go_simp
              (try with_reducible rfl)
            simp only [Act.put, List.setIfInBounds_toArray, List.set_cons_zero, List.set_cons_succ]
            refine held_take (i := 10) (v := ?_) rfl rfl (by kernel_rfl) (by kernel_rfl) (by kernel_rfl) (fun _ _ _ h => h) (by rfl) hHeld ?_ ?_
            rotate_left
            · rintro wh ⟨z0, z1⟩
              go_simp
              (try with_reducible rfl)
            simp only [Act.put, List.setIfInBounds_toArray, List.set_cons_zero, List.set_cons_succ]
            refine held_take (i := 11) (v := ?_) rfl rfl (by kernel_rfl) (by kernel_rfl) (by kernel_rfl) (fun _ _ _ h => h) (by rfl) hHeld ?_ ?_
            rotate_left
            · rintro wh ⟨z0, z1⟩
              go_simp
              (try with_reducible rfl)
            simp only [Act.put, List.setIfInBounds_toArray, List.set_cons_zero, List.set_cons_succ]
            refine held_take (i := 12) (v := ?_) rfl rfl (by kernel_rfl) (by kernel_rfl) (by kernel_rfl) (fun _ _ _ h => h) (by rfl) hHeld ?_ ?_
            rotate_left
            · rintro wh ⟨z0, z1⟩
              go_simp
              (try with_reducible rfl)
            simp only [Act.put, List.setIfInBounds_toArray, List.set_cons_zero, List.set_cons_succ]
            refine held_take (i := 13) (v := ?_) rfl rfl (by kernel_rfl) (by kernel_rfl) (by kernel_rfl) (fun _ _ _ h => h) (by rfl) hHeld ?_ ?_
            rotate_left
            · rintro wh ⟨z0, z1⟩
              go_simp
              (try with_reducible rfl)
            simp only [Act.put, List.setIfInBounds_toArray, List.set_cons_zero, List.set_cons_succ]
            refine held_take (i := 14) (v := ?_) rfl rfl (by kernel_rfl) (by kernel_rfl) (by kernel_rfl) (fun _ _ _ h => h) (by rfl) hHeld ?_ ?_
            rotate_left
            · rintro wh ⟨z0, z1⟩
              go_simp
              (try with_reducible rfl)
            simp only [Act.put, List.setIfInBounds_toArray, List.set_cons_zero, List.set_cons_succ]
            refine held_take (i := 15) (v := ?_) rfl rfl (by kernel_rfl) (by kernel_rfl) (by kernel_rfl) (fun _ _ _ h => h) (by rfl) hHeld ?_ ?_
            rotate_left
            · rintro wh ⟨z0, z1⟩
              go_simp
              (try with_reducible rfl)
            simp only [Act.put, List.setIfInBounds_toArray, List.set_cons_zero, List.set_cons_succ]
            refine held_take (i := 16) (v := ?_) rfl rfl (by kernel_rfl) (by kernel_rfl) (by kernel_rfl) (fun _ _ _ h => h) (by rfl) hHeld ?_ ?_
            rotate_left
            · rintro wh ⟨z0, z1⟩
              go_simp
              (try with_reducible rfl)
            simp only [Act.put, List.setIfInBounds_toArray, List.set_cons_zero, List.set_cons_succ]
            refine held_take (i := 17) (v := ?_) rfl rfl (by kernel_rfl) (by kernel_rfl) (by kernel_rfl) (fun _ _ _ h => h) (by rfl) hHeld ?_ ?_
            rotate_left
            · rintro wh ⟨z0, z1⟩
              go_simp
              (try with_reducible rfl)
            simp only [Act.put, List.setIfInBounds_toArray, List.set_cons_zero, List.set_cons_succ]
            refine held_take (i := 18) (v := ?_) rfl rfl (by kernel_rfl) (by kernel_rfl) (by kernel_rfl) (fun _ _ _ h => h) (by rfl) hHeld ?_ ?_
            rotate_left
            · rintro wh ⟨z0, z1⟩
              go_simp
              (try with_reducible rfl)
            simp only [Act.put, List.setIfInBounds_toArray, List.set_cons_zero, List.set_cons_succ]
            refine held_take (i := 19) (v := ?_) rfl rfl (by kernel_rfl) (by kernel_rfl) (by kernel_rfl) (fun _ _ _ h => h) (by rfl) hHeld ?_ ?_
            rotate_left
            · rintro wh ⟨z0, z1⟩
              go_simp
              (try with_reducible rfl)
            simp only [Act.put, List.setIfInBounds_toArray, List.set_cons_zero, List.set_cons_succ]
            refine held_skip (i := 20) rfl rfl (by kernel_rfl) (by kernel_rfl) (by kernel_rfl) (fun _ _ _ h => h) (by rfl) hHeld ?_
            simp only [Act.put, List.setIfInBounds_toArray, List.set_cons_zero, List.set_cons_succ]
            refine held_skip (i := 21) rfl rfl (by kernel_rfl) (by kernel_rfl) (by kernel_rfl) (fun _ _ _ h => h) (by rfl) hHeld ?_
            simp only [Act.put, List.setIfInBounds_toArray, List.set_cons_zero, List.set_cons_succ]
            refine held_skip (i := 22) rfl rfl (by kernel_rfl) (by kernel_rfl) (by kernel_rfl) (fun _ _ _ h => h) (by rfl) hHeld ?_
            simp only [Act.put, List.setIfInBounds_toArray, List.set_cons_zero, List.set_cons_succ]
            refine held_skip (i := 23) rfl rfl (by kernel_rfl) (by kernel_rfl) (by kernel_rfl) (fun _ _ _ h => h) (by rfl) hHeld ?_
            simp only [Act.put, List.setIfInBounds_toArray, List.set_cons_zero, List.set_cons_succ]
            refine held_skip (i := 24) rfl rfl (by kernel_rfl) (by kernel_rfl) (by kernel_rfl) (fun _ _ _ h => h) (by rfl) hHeld ?_
            simp only [Act.put, List.setIfInBounds_toArray, List.set_cons_zero, List.set_cons_succ]
            refine held_skip (i := 25) rfl rfl (by kernel_rfl) (by kernel_rfl) (by kernel_rfl) (fun _ _ _ h => h) (by rfl) hHeld ?_
            simp only [Act.put, List.setIfInBounds_toArray, List.set_cons_zero, List.set_cons_succ]
            refine held_skip (i := 26) rfl rfl (by kernel_rfl) (by kernel_rfl) (by kernel_rfl) (fun _ _ _ h => h) (by rfl) hHeld ?_
            simp only [Act.put, List.setIfInBounds_toArray, List.set_cons_zero, List.set_cons_succ]
            refine held_skip (i := 27) rfl rfl (by kernel_rfl) (by kernel_rfl) (by kernel_rfl) (fun _ _ _ h => h) (by rfl) hHeld ?_
            simp only [Act.put, List.setIfInBounds_toArray, List.set_cons_zero, List.set_cons_succ]
            refine held_skip (i := 28) rfl rfl (by kernel_rfl) (by kernel_rfl) (by kernel_rfl) (fun _ _ _ h => h) (by rfl) hHeld ?_
            simp only [Act.put, List.setIfInBounds_toArray, List.set_cons_zero, List.set_cons_succ]
            refine held_skip (i := 29) rfl rfl (by kernel_rfl) (by kernel_rfl) (by kernel_rfl) (fun _ _ _ h => h) (by rfl) hHeld ?_
            simp only [Act.put, List.setIfInBounds_toArray, List.set_cons_zero, List.set_cons_succ]
            refine held_skip (i := 30) rfl rfl (by kernel_rfl) (by kernel_rfl) (by kernel_rfl) (fun _ _ _ h => h) (by rfl) hHeld ?_
            simp only [Act.put, List.setIfInBounds_toArray, List.set_cons_zero, List.set_cons_succ]
            refine held_skip (i := 31) rfl rfl (by kernel_rfl) (by kernel_rfl) (by kernel_rfl) (fun _ _ _ h => h) (by rfl) hHeld ?_
            simp only [Act.put, List.setIfInBounds_toArray, List.set_cons_zero, List.set_cons_succ]
            refine held_skip (i := 32) rfl rfl (by kernel_rfl) (by kernel_rfl) (by kernel_rfl) (fun _ _ _ h => h) (by rfl) hHeld ?_
            simp only [Act.put, List.setIfInBounds_toArray, List.set_cons_zero, List.set_cons_succ]
            refine held_take (i := 33) (v := ?_) rfl rfl (by kernel_rfl) (by kernel_rfl) (by kernel_rfl) (fun _ _ _ h => h) (by rfl) hHeld ?_ ?_
            rotate_left
            · rintro wh ⟨z0, z1⟩
              go_simp
              (try with_reducible rfl)
            simp only [Act.put, List.setIfInBounds_toArray, List.set_cons_zero, List.set_cons_succ]
            refine held_take (i := 34) (v := ?_) rfl rfl (by kernel_rfl) (by kernel_rfl) (by kernel_rfl) (fun _ _ _ h => h) (by rfl) hHeld ?_ ?_
            rotate_left
            · rintro wh ⟨z0, z1⟩
              go_simp
              (try with_reducible rfl)
            simp only [Act.put, List.setIfInBounds_toArray, List.set_cons_zero, List.set_cons_succ]
            refine wpAnyH_done (by kernel_rfl) ?_ _
            have hbn : Below w.heap.size w wr.drew := hbr.trans (hB1.mono hbr.size)
            clear hB1 hn
            generalize wr.drew = wq at *
            go_wp2
            go_roundw
            case rel => exact ⟨0 + 1, by omega, by go_num, HN, hbn⟩
            case measure => (simp [intOf]; try omega)
          · obtain ⟨m, hm⟩ : ∃ m, k = m + 1 := ⟨k - 1, by omega⟩
            have hml : m < l.length := by omega
            obtain ⟨z, hze⟩ : ∃ z, l[m].1 = z := ⟨_, rfl⟩
            have hfz := (HF.out _ (List.getElem_mem hml)).1
            rw [hze] at hfz
            obtain ⟨hz0, _⟩ := fldCells_at l m hml
            rw [hze] at hz0
            have az : wr.cell? ⟨b, o + m * 2, none⟩ = some (.string z) := hall _ _ hz0
            have hgz : (l.getD (k - 1) default).1 = z := by
              rw [hm, Nat.add_sub_cancel, List.getD_eq_getElem?_getD, List.getElem?_eq_getElem hml]; exact hze
            have hkz : decide (k = 0) = false := decide_eq_false (by omega)
            rw [hgz, hnm, decide_eq_true hy2, hkz] at hstep hbad
            have k0 : (0 : Int) < (k : Int) := by omega
            have hw1 : IntKind.i64.wrap ((k : Int) - 1) = (m : Int) := by rw [IntKind.wrap_i64]; omega
            have hI1 : (m : Int) < (l.length : Int) := by omega
            have hah := fun W => rahead_any z x W hfz
            obtain ⟨lt, hlt⟩ : ∃ lt, ltS z x = lt := ⟨_, rfl⟩
            rw [hlt] at hstep hbad
            simp only [hlt] at hah
            have HM := Lib.hid hm
            clear hnm hy2 hze hkz hall hz0 hgz hfz hfs hlt hm
            cases lt
            · have HZ := hbad rfl
              clear hstep hbad
              go_upto_region 4 with fail
              refine wp_region_held_drew (S := (fun W => W.cell? ⟨b, o + k * 2, none⟩ = some (.string x) ∧ W.cell? ⟨b, o + k * 2 + 1, none⟩ = some (.string y) ∧ W.cell? ⟨b, o + m * 2, none⟩ = some (.string z))) (by kernel_rfl) ⟨a0, a1, az⟩ (fun hHeld => ?_)
              refine held_take (i := 0) (v := ?_) rfl rfl (by kernel_rfl) (by kernel_rfl) (by kernel_rfl) (fun _ _ _ h => h) (by rfl) hHeld ?_ ?_
              rotate_left
              · rintro wh ⟨z0, z1, z2⟩
                go_simp
                (try with_reducible rfl)
              simp only [Act.put, List.setIfInBounds_toArray, List.set_cons_zero, List.set_cons_succ]
              refine held_take (i := 1) (v := ?_) rfl rfl (by kernel_rfl) (by kernel_rfl) (by kernel_rfl) (fun _ _ _ h => h) (by rfl) hHeld ?_ ?_
              rotate_left
              · rintro wh ⟨z0, z1, z2⟩
                go_simp
                (try with_reducible rfl)
              simp only [Act.put, List.setIfInBounds_toArray, List.set_cons_zero, List.set_cons_succ]
              refine held_take (i := 2) (v := ?_) rfl rfl (by kernel_rfl) (by kernel_rfl) (by kernel_rfl) (fun _ _ _ h => h) (by rfl) hHeld ?_ ?_
              rotate_left
              · rintro wh ⟨z0, z1, z2⟩
                go_simp
                (try with_reducible rfl)
              simp only [Act.put, List.setIfInBounds_toArray, List.set_cons_zero, List.set_cons_succ]
              refine held_take (i := 3) (v := ?_) rfl rfl (by kernel_rfl) (by kernel_rfl) (by kernel_rfl) (fun _ _ _ h => h) (by rfl) hHeld ?_ ?_
              rotate_left
              · rintro wh ⟨z0, z1, z2⟩
                go_simp
                (try with_reducible rfl)
              simp only [Act.put, List.setIfInBounds_toArray, List.set_cons_zero, List.set_cons_succ]
              refine held_take (i := 4) (v := ?_) rfl rfl (by kernel_rfl) (by kernel_rfl) (by kernel_rfl) (fun _ _ _ h => h) (by rfl) hHeld ?_ ?_
              rotate_left
              · rintro wh ⟨z0, z1, z2⟩
                go_simp
                (try with_reducible rfl)
              simp only [Act.put, List.setIfInBounds_toArray, List.set_cons_zero, List.set_cons_succ]
              refine held_call (i := 5) rfl (by kernel_rfl) (by rfl) (fun K hK => ?_)
              (go_simp; go_at_call 55; refine (hn _).mono ?_; rintro e w1 ⟨rfl, rfl⟩; have hB1 : Below wr.heap.size wr wr.drew := (Below.refl _ _).drew)
              refine hK.out _ _ ⟨keep_cell a0 hB1 hwb, keep_cell a1 hB1 hwb, keep_cell az hB1 hwb⟩ (fun hHeld => ?_)
              clear hK K
              (try simp only [Act.put, List.setIfInBounds_toArray, List.set_cons_zero, List.set_cons_succ])
              refine held_take (i := 6) (v := ?_) rfl rfl (by kernel_rfl) (by kernel_rfl) (by kernel_rfl) (fun _ _ _ h => h) (by rfl) hHeld ?_ ?_
              rotate_left
              · rintro wh ⟨z0, z1, z2⟩
                go_simp
                (try with_reducible rfl)
              simp only [Act.put, List.setIfInBounds_toArray, List.set_cons_zero, List.set_cons_succ]
              refine held_take (i := 7) (v := ?_) rfl rfl (by kernel_rfl) (by kernel_rfl) (by kernel_rfl) (fun _ _ _ h => h) (by rfl) hHeld ?_ ?_
              rotate_left
              · rintro wh ⟨z0, z1, z2⟩
                go_simp
                (try with_reducible rfl)
              simp only [Act.put, List.setIfInBounds_toArray, List.set_cons_zero, List.set_cons_succ]
              refine held_take (i := 8) (v := ?_) rfl rfl (by kernel_rfl) (by kernel_rfl) (by kernel_rfl) (fun _ _ _ h => h) (by rfl) hHeld ?_ ?_
              rotate_left
              · rintro wh ⟨z0, z1, z2⟩
                go_simp
                (try with_reducible rfl)
              simp only [Act.put, List.setIfInBounds_toArray, List.set_cons_zero, List.set_cons_succ]
              refine held_take (i := 9) (v := ?_) rfl rfl (by kernel_rfl) (by kernel_rfl) (by kernel_rfl) (fun _ _ _ h => h) (by rfl) hHeld ?_ ?_
              rotate_left
              · rintro wh ⟨z0, z1, z2⟩
                go_simp
                (try with_reducible rfl)
              simp only [Act.put, List.setIfInBounds_toArray, List.set_cons_zero, List.set_cons_succ]
              refine held_take (i := 10) (v := ?_) rfl rfl (by kernel_rfl) (by kernel_rfl) (by kernel_rfl) (fun _ _ _ h => h) (by rfl) hHeld ?_ ?_
              rotate_left
              · rintro wh ⟨z0, z1, z2⟩
                go_simp
                (try with_reducible rfl)
              simp only [Act.put, List.setIfInBounds_toArray, List.set_cons_zero, List.set_cons_succ]
              refine held_take (i := 11) (v := ?_) rfl rfl (by kernel_rfl) (by kernel_rfl) (by kernel_rfl) (fun _ _ _ h => h) (by rfl) hHeld ?_ ?_
              rotate_left
              · rintro wh ⟨z0, z1, z2⟩
                go_simp
                (try with_reducible rfl)
              simp only [Act.put, List.setIfInBounds_toArray, List.set_cons_zero, List.set_cons_succ]
              refine held_take (i := 12) (v := ?_) rfl rfl (by kernel_rfl) (by kernel_rfl) (by kernel_rfl) (fun _ _ _ h => h) (by rfl) hHeld ?_ ?_
              rotate_left
              · rintro wh ⟨z0, z1, z2⟩
                go_simp
                (try with_reducible rfl)
              simp only [Act.put, List.setIfInBounds_toArray, List.set_cons_zero, List.set_cons_succ]
              refine held_take (i := 13) (v := ?_) rfl rfl (by kernel_rfl) (by kernel_rfl) (by kernel_rfl) (fun _ _ _ h => h) (by rfl) hHeld ?_ ?_
              rotate_left
              · rintro wh ⟨z0, z1, z2⟩
                go_simp
                (try with_reducible rfl)
              simp only [Act.put, List.setIfInBounds_toArray, List.set_cons_zero, List.set_cons_succ]
              refine held_take (i := 14) (v := ?_) rfl rfl (by kernel_rfl) (by kernel_rfl) (by kernel_rfl) (fun _ _ _ h => h) (by rfl) hHeld ?_ ?_
              rotate_left
              · rintro wh ⟨z0, z1, z2⟩
                go_simp
                (try with_reducible rfl)
              simp only [Act.put, List.setIfInBounds_toArray, List.set_cons_zero, List.set_cons_succ]
              refine held_take (i := 15) (v := ?_) rfl rfl (by kernel_rfl) (by kernel_rfl) (by kernel_rfl) (fun _ _ _ h => h) (by rfl) hHeld ?_ ?_
              rotate_left
              · rintro wh ⟨z0, z1, z2⟩
                go_simp
                (try with_reducible rfl)
              simp only [Act.put, List.setIfInBounds_toArray, List.set_cons_zero, List.set_cons_succ]
              refine held_take (i := 16) (v := ?_) rfl rfl (by kernel_rfl) (by kernel_rfl) (by kernel_rfl) (fun _ _ _ h => h) (by rfl) hHeld ?_ ?_
              rotate_left
              · rintro wh ⟨z0, z1, z2⟩
                go_simp
                (try with_reducible rfl)
              simp only [Act.put, List.setIfInBounds_toArray, List.set_cons_zero, List.set_cons_succ]
              refine held_take (i := 17) (v := ?_) rfl rfl (by kernel_rfl) (by kernel_rfl) (by kernel_rfl) (fun _ _ _ h => h) (by rfl) hHeld ?_ ?_
              rotate_left
              · rintro wh ⟨z0, z1, z2⟩
                go_simp
                (try with_reducible rfl)
              simp only [Act.put, List.setIfInBounds_toArray, List.set_cons_zero, List.set_cons_succ]
              refine held_take (i := 18) (v := ?_) rfl rfl (by kernel_rfl) (by kernel_rfl) (by kernel_rfl) (fun _ _ _ h => h) (by rfl) hHeld ?_ ?_
              rotate_left
              · rintro wh ⟨z0, z1, z2⟩
                go_simp
                (try with_reducible rfl)
              simp only [Act.put, List.setIfInBounds_toArray, List.set_cons_zero, List.set_cons_succ]
              refine held_take (i := 19) (v := ?_) rfl rfl (by kernel_rfl) (by kernel_rfl) (by kernel_rfl) (fun _ _ _ h => h) (by rfl) hHeld ?_ ?_
              rotate_left
              · rintro wh ⟨z0, z1, z2⟩
                go_simp
                (try with_reducible rfl)
              simp only [Act.put, List.setIfInBounds_toArray, List.set_cons_zero, List.set_cons_succ]
              refine held_take (i := 20) (v := ?_) rfl rfl (by kernel_rfl) (by kernel_rfl) (by kernel_rfl) (fun _ _ _ h => h) (by rfl) hHeld ?_ ?_
              rotate_left
              · rintro wh ⟨z0, z1, z2⟩
                go_simp
                (try with_reducible rfl)
              simp only [Act.put, List.setIfInBounds_toArray, List.set_cons_zero, List.set_cons_succ]
              refine held_take (i := 21) (v := ?_) rfl rfl (by kernel_rfl) (by kernel_rfl) (by kernel_rfl) (fun _ _ _ h => h) (by rfl) hHeld ?_ ?_
              rotate_left
              · rintro wh ⟨z0, z1, z2⟩
                go_simp
                (try with_reducible rfl)
              simp only [Act.put, List.setIfInBounds_toArray, List.set_cons_zero, List.set_cons_succ]
              refine held_take (i := 22) (v := ?_) rfl rfl (by kernel_rfl) (by kernel_rfl) (by kernel_rfl) (fun _ _ _ h => h) (by rfl) hHeld ?_ ?_
              rotate_left
              · rintro wh ⟨z0, z1, z2⟩
                go_simp
                (try with_reducible rfl)
              simp only [Act.put, List.setIfInBounds_toArray, List.set_cons_zero, List.set_cons_succ]
              refine held_take (i := 23) (v := ?_) rfl rfl (by kernel_rfl) (by kernel_rfl) (by kernel_rfl) (fun _ _ _ h => h) (by rfl) hHeld ?_ ?_
              rotate_left
              · rintro wh ⟨z0, z1, z2⟩
                go_simp
                (try with_reducible rfl)
              simp only [Act.put, List.setIfInBounds_toArray, List.set_cons_zero, List.set_cons_succ]
              refine held_take (i := 24) (v := ?_) rfl rfl (by kernel_rfl) (by kernel_rfl) (by kernel_rfl) (fun _ _ _ h => h) (by rfl) hHeld ?_ ?_
              rotate_left
              · rintro wh ⟨z0, z1, z2⟩
                go_simp
                (try with_reducible rfl)
              simp only [Act.put, List.setIfInBounds_toArray, List.set_cons_zero, List.set_cons_succ]
              refine held_take (i := 25) (v := ?_) rfl rfl (by kernel_rfl) (by kernel_rfl) (by kernel_rfl) (fun _ _ _ h => h) (by rfl) hHeld ?_ ?_
              rotate_left
              · rintro wh ⟨z0, z1, z2⟩
                go_simp
                (try with_reducible rfl)
              simp only [Act.put, List.setIfInBounds_toArray, List.set_cons_zero, List.set_cons_succ]
              refine held_take (i := 26) (v := ?_) rfl rfl (by kernel_rfl) (by kernel_rfl) (by kernel_rfl) (fun _ _ _ h => h) (by rfl) hHeld ?_ ?_
              rotate_left
              · rintro wh ⟨z0, z1, z2⟩
                go_simp
                (try with_reducible rfl)
              simp only [Act.put, List.setIfInBounds_toArray, List.set_cons_zero, List.set_cons_succ]
              refine held_take (i := 27) (v := ?_) rfl rfl (by kernel_rfl) (by kernel_rfl) (by kernel_rfl) (fun _ _ _ h => h) (by rfl) hHeld ?_ ?_
              rotate_left
              · rintro wh ⟨z0, z1, z2⟩
                go_simp
                (try with_reducible rfl)
              simp only [Act.put, List.setIfInBounds_toArray, List.set_cons_zero, List.set_cons_succ]
              refine held_take (i := 28) (v := ?_) rfl rfl (by kernel_rfl) (by kernel_rfl) (by kernel_rfl) (fun _ _ _ h => h) (by rfl) hHeld ?_ ?_
              rotate_left
              · rintro wh ⟨z0, z1, z2⟩
                go_simp
                (try with_reducible rfl)
              simp only [Act.put, List.setIfInBounds_toArray, List.set_cons_zero, List.set_cons_succ]
              refine held_take (i := 29) (v := ?_) rfl rfl (by kernel_rfl) (by kernel_rfl) (by kernel_rfl) (fun _ _ _ h => h) (by rfl) hHeld ?_ ?_
              rotate_left
              · rintro wh ⟨z0, z1, z2⟩
                go_simp
                (try with_reducible rfl)
              simp only [Act.put, List.setIfInBounds_toArray, List.set_cons_zero, List.set_cons_succ]
              refine held_take (i := 30) (v := ?_) rfl rfl (by kernel_rfl) (by kernel_rfl) (by kernel_rfl) (fun _ _ _ h => h) (by rfl) hHeld ?_ ?_
              rotate_left
              · rintro wh ⟨z0, z1, z2⟩
                go_simp
                (try with_reducible rfl)
              simp only [Act.put, List.setIfInBounds_toArray, List.set_cons_zero, List.set_cons_succ]
              refine held_call (i := 31) rfl (by kernel_rfl) (by rfl) (fun K hK => ?_)
              (go_simp; go_at_call 125; refine (hah _).mono ?_; rintro e w2 ⟨rfl, hb2⟩; have hB2 : Below wr.heap.size wr w2 := hB1.trans hb2)
              refine hK.out _ _ ⟨keep_cell a0 hB2 hwb, keep_cell a1 hB2 hwb, keep_cell az hB2 hwb⟩ (fun hHeld => ?_)
              clear hK K
              (try simp only [Act.put, List.setIfInBounds_toArray, List.set_cons_zero, List.set_cons_succ])
              refine held_take (i := 32) (v := ?_) rfl rfl (by kernel_rfl) (by kernel_rfl) (by kernel_rfl) (fun _ _ _ h => h) (by rfl) hHeld ?_ ?_
              rotate_left
              · rintro wh ⟨z0, z1, z2⟩
                go_simp
                (try with_reducible rfl)
              simp only [Act.put, List.setIfInBounds_toArray, List.set_cons_zero, List.set_cons_succ]
              refine held_take (i := 33) (v := ?_) rfl rfl (by kernel_rfl) (by kernel_rfl) (by kernel_rfl) (fun _ _ _ h => h) (by rfl) hHeld ?_ ?_
              rotate_left
              · rintro wh ⟨z0, z1, z2⟩
                go_simp
                (try with_reducible rfl)
              simp only [Act.put, List.setIfInBounds_toArray, List.set_cons_zero, List.set_cons_succ]
              refine held_take (i := 34) (v := ?_) rfl rfl (by kernel_rfl) (by kernel_rfl) (by kernel_rfl) (fun _ _ _ h => h) (by rfl) hHeld ?_ ?_
              rotate_left
              · rintro wh ⟨z0, z1, z2⟩
                go_simp
                (try with_reducible rfl)
              simp only [Act.put, List.setIfInBounds_toArray, List.set_cons_zero, List.set_cons_succ]
              refine wpAnyH_done (by kernel_rfl) ?_ _
              have hbn : Below w.heap.size w w2 := hbr.trans (hB2.mono hbr.size)
              clear hB1 hB2 hb2 hn hah
              go_wp2
              go_ret
              exact ⟨by rw [HZ.out]; rfl, hbn⟩
            · have HN := hstep rfl
              clear hstep hbad
              go_upto_region 4 with fail
              refine wp_region_held_drew (S := (fun W => W.cell? ⟨b, o + k * 2, none⟩ = some (.string x) ∧ W.cell? ⟨b, o + k * 2 + 1, none⟩ = some (.string y) ∧ W.cell? ⟨b, o + m * 2, none⟩ = some (.string z))) (by kernel_rfl) ⟨a0, a1, az⟩ (fun hHeld => ?_)
              refine held_take (i := 0) (v := ?_) rfl rfl (by kernel_rfl) (by kernel_rfl) (by kernel_rfl) (fun _ _ _ h => h) (by rfl) hHeld ?_ ?_
              rotate_left
              · rintro wh ⟨z0, z1, z2⟩
                go_simp
                (try with_reducible rfl)
              simp only [Act.put, List.setIfInBounds_toArray, List.set_cons_zero, List.set_cons_succ]
              refine held_take (i := 1) (v := ?_) rfl rfl (by kernel_rfl) (by kernel_rfl) (by kernel_rfl) (fun _ _ _ h => h) (by rfl) hHeld ?_ ?_
              rotate_left
              · rintro wh ⟨z0, z1, z2⟩
                go_simp
                (try with_reducible rfl)
              simp only [Act.put, List.setIfInBounds_toArray, List.set_cons_zero, List.set_cons_succ]
              refine held_take (i := 2) (v := ?_) rfl rfl (by kernel_rfl) (by kernel_rfl) (by kernel_rfl) (fun _ _ _ h => h) (by rfl) hHeld ?_ ?_
              rotate_left
              · rintro wh ⟨z0, z1, z2⟩
                go_simp
                (try with_reducible rfl)
              simp only [Act.put, List.setIfInBounds_toArray, List.set_cons_zero, List.set_cons_succ]
              refine held_take (i := 3) (v := ?_) rfl rfl (by kernel_rfl) (by kernel_rfl) (by kernel_rfl) (fun _ _ _ h => h) (by rfl) hHeld ?_ ?_
              rotate_left
              · rintro wh ⟨z0, z1, z2⟩
                go_simp
                (try with_reducible rfl)
              simp only [Act.put, List.setIfInBounds_toArray, List.set_cons_zero, List.set_cons_succ]
              refine held_take (i := 4) (v := ?_) rfl rfl (by kernel_rfl) (by kernel_rfl) (by kernel_rfl) (fun _ _ _ h => h) (by rfl) hHeld ?_ ?_
              rotate_left
              · rintro wh ⟨z0, z1, z2⟩
                go_simp
                (try with_reducible rfl)
              simp only [Act.put, List.setIfInBounds_toArray, List.set_cons_zero, List.set_cons_succ]
              refine held_call (i := 5) rfl (by kernel_rfl) (by rfl) (fun K hK => ?_)
              (go_simp; go_at_call 55; refine (hn _).mono ?_; rintro e w1 ⟨rfl, rfl⟩; have hB1 : Below wr.heap.size wr wr.drew := (Below.refl _ _).drew)
              refine hK.out _ _ ⟨keep_cell a0 hB1 hwb, keep_cell a1 hB1 hwb, keep_cell az hB1 hwb⟩ (fun hHeld => ?_)
              clear hK K
              (try simp only [Act.put, List.setIfInBounds_toArray, List.set_cons_zero, List.set_cons_succ])
              refine held_take (i := 6) (v := ?_) rfl rfl (by kernel_rfl) (by kernel_rfl) (by kernel_rfl) (fun _ _ _ h => h) (by rfl) hHeld ?_ ?_
              rotate_left
              · rintro wh ⟨z0, z1, z2⟩
                go_simp
                (try with_reducible rfl)
              simp only [Act.put, List.setIfInBounds_toArray, List.set_cons_zero, List.set_cons_succ]
              refine held_take (i := 7) (v := ?_) rfl rfl (by kernel_rfl) (by kernel_rfl) (by kernel_rfl) (fun _ _ _ h => h) (by rfl) hHeld ?_ ?_
              rotate_left
              · rintro wh ⟨z0, z1, z2⟩
                go_simp
                (try with_reducible rfl)
              simp only [Act.put, List.setIfInBounds_toArray, List.set_cons_zero, List.set_cons_succ]
              refine held_take (i := 8) (v := ?_) rfl rfl (by kernel_rfl) (by kernel_rfl) (by kernel_rfl) (fun _ _ _ h => h) (by rfl) hHeld ?_ ?_
              rotate_left
              · rintro wh ⟨z0, z1, z2⟩
                go_simp
                (try with_reducible rfl)
              simp only [Act.put, List.setIfInBounds_toArray, List.set_cons_zero, List.set_cons_succ]
              refine held_take (i := 9) (v := ?_) rfl rfl (by kernel_rfl) (by kernel_rfl) (by kernel_rfl) (fun _ _ _ h => h) (by rfl) hHeld ?_ ?_
              rotate_left
              · rintro wh ⟨z0, z1, z2⟩
                go_simp
                (try with_reducible rfl)
              simp only [Act.put, List.setIfInBounds_toArray, List.set_cons_zero, List.set_cons_succ]
              refine held_take (i := 10) (v := ?_) rfl rfl (by kernel_rfl) (by kernel_rfl) (by kernel_rfl) (fun _ _ _ h => h) (by rfl) hHeld ?_ ?_
              rotate_left
              · rintro wh ⟨z0, z1, z2⟩
                go_simp
                (try with_reducible rfl)
              simp only [Act.put, List.setIfInBounds_toArray, List.set_cons_zero, List.set_cons_succ]
              refine held_take (i := 11) (v := ?_) rfl rfl (by kernel_rfl) (by kernel_rfl) (by kernel_rfl) (fun _ _ _ h => h) (by rfl) hHeld ?_ ?_
              rotate_left
              · rintro wh ⟨z0, z1, z2⟩
                go_simp
                (try with_reducible rfl)
              simp only [Act.put, List.setIfInBounds_toArray, List.set_cons_zero, List.set_cons_succ]
              refine held_take (i := 12) (v := ?_) rfl rfl (by kernel_rfl) (by kernel_rfl) (by kernel_rfl) (fun _ _ _ h => h) (by rfl) hHeld ?_ ?_
              rotate_left
              · rintro wh ⟨z0, z1, z2⟩
                go_simp
                (try with_reducible rfl)
              simp only [Act.put, List.setIfInBounds_toArray, List.set_cons_zero, List.set_cons_succ]
              refine held_take (i := 13) (v := ?_) rfl rfl (by kernel_rfl) (by kernel_rfl) (by kernel_rfl) (fun _ _ _ h => h) (by rfl) hHeld ?_ ?_
              rotate_left
              · rintro wh ⟨z0, z1, z2⟩
                go_simp
                (try with_reducible rfl)
              simp only [Act.put, List.setIfInBounds_toArray, List.set_cons_zero, List.set_cons_succ]
              refine held_take (i := 14) (v := ?_) rfl rfl (by kernel_rfl) (by kernel_rfl) (by kernel_rfl) (fun _ _ _ h => h) (by rfl) hHeld ?_ ?_
              rotate_left
              · rintro wh ⟨z0, z1, z2⟩
                go_simp
                (try with_reducible rfl)
              simp only [Act.put, List.setIfInBounds_toArray, List.set_cons_zero, List.set_cons_succ]
              refine held_take (i := 15) (v := ?_) rfl rfl (by kernel_rfl) (by kernel_rfl) (by kernel_rfl) (fun _ _ _ h => h) (by rfl) hHeld ?_ ?_
              rotate_left
              · rintro wh ⟨z0, z1, z2⟩
                go_simp
                (try with_reducible rfl)
              simp only [Act.put, List.setIfInBounds_toArray, List.set_cons_zero, List.set_cons_succ]
              refine held_take (i := 16) (v := ?_) rfl rfl (by kernel_rfl) (by kernel_rfl) (by kernel_rfl) (fun _ _ _ h => h) (by rfl) hHeld ?_ ?_
              rotate_left
              · rintro wh ⟨z0, z1, z2⟩
                go_simp
                (try with_reducible rfl)
              simp only [Act.put, List.setIfInBounds_toArray, List.set_cons_zero, List.set_cons_succ]
              refine held_take (i := 17) (v := ?_) rfl rfl (by kernel_rfl) (by kernel_rfl) (by kernel_rfl) (fun _ _ _ h => h) (by rfl) hHeld ?_ ?_
              rotate_left
              · rintro wh ⟨z0, z1, z2⟩
                go_simp
                (try with_reducible rfl)
              simp only [Act.put, List.setIfInBounds_toArray, List.set_cons_zero, List.set_cons_succ]
              refine held_take (i := 18) (v := ?_) rfl rfl (by kernel_rfl) (by kernel_rfl) (by kernel_rfl) (fun _ _ _ h => h) (by rfl) hHeld ?_ ?_
              rotate_left
              · rintro wh ⟨z0, z1, z2⟩
                go_simp
                (try with_reducible rfl)
              simp only [Act.put, List.setIfInBounds_toArray, List.set_cons_zero, List.set_cons_succ]
              refine held_take (i := 19) (v := ?_) rfl rfl (by kernel_rfl) (by kernel_rfl) (by kernel_rfl) (fun _ _ _ h => h) (by rfl) hHeld ?_ ?_
              rotate_left
              · rintro wh ⟨z0, z1, z2⟩
                go_simp
                (try with_reducible rfl)
              simp only [Act.put, List.setIfInBounds_toArray, List.set_cons_zero, List.set_cons_succ]
              refine held_take (i := 20) (v := ?_) rfl rfl (by kernel_rfl) (by kernel_rfl) (by kernel_rfl) (fun _ _ _ h => h) (by rfl) hHeld ?_ ?_
              rotate_left
              · rintro wh ⟨z0, z1, z2⟩
                go_simp
                (try with_reducible rfl)
              simp only [Act.put, List.setIfInBounds_toArray, List.set_cons_zero, List.set_cons_succ]
              refine held_take (i := 21) (v := ?_) rfl rfl (by kernel_rfl) (by kernel_rfl) (by kernel_rfl) (fun _ _ _ h => h) (by rfl) hHeld ?_ ?_
              rotate_left
              · rintro wh ⟨z0, z1, z2⟩
                go_simp
                (try with_reducible rfl)
              simp only [Act.put, List.setIfInBounds_toArray, List.set_cons_zero, List.set_cons_succ]
              refine held_take (i := 22) (v := ?_) rfl rfl (by kernel_rfl) (by kernel_rfl) (by kernel_rfl) (fun _ _ _ h => h) (by rfl) hHeld ?_ ?_
              rotate_left
              · rintro wh ⟨z0, z1, z2⟩
                go_simp
                (try with_reducible rfl)
              simp only [Act.put, List.setIfInBounds_toArray, List.set_cons_zero, List.set_cons_succ]
              refine held_take (i := 23) (v := ?_) rfl rfl (by kernel_rfl) (by kernel_rfl) (by kernel_rfl) (fun _ _ _ h => h) (by rfl) hHeld ?_ ?_
              rotate_left
              · rintro wh ⟨z0, z1, z2⟩
                go_simp
                (try with_reducible rfl)
              simp only [Act.put, List.setIfInBounds_toArray, List.set_cons_zero, List.set_cons_succ]
              refine held_take (i := 24) (v := ?_) rfl rfl (by kernel_rfl) (by kernel_rfl) (by kernel_rfl) (fun _ _ _ h => h) (by rfl) hHeld ?_ ?_
              rotate_left
              · rintro wh ⟨z0, z1, z2⟩
                go_simp
                (try with_reducible rfl)
              simp only [Act.put, List.setIfInBounds_toArray, List.set_cons_zero, List.set_cons_succ]
              refine held_take (i := 25) (v := ?_) rfl rfl (by kernel_rfl) (by kernel_rfl) (by kernel_rfl) (fun _ _ _ h => h) (by rfl) hHeld ?_ ?_
              rotate_left
              · rintro wh ⟨z0, z1, z2⟩
                go_simp
                (try with_reducible rfl)
              simp only [Act.put, List.setIfInBounds_toArray, List.set_cons_zero, List.set_cons_succ]
              refine held_take (i := 26) (v := ?_) rfl rfl (by kernel_rfl) (by kernel_rfl) (by kernel_rfl) (fun _ _ _ h => h) (by rfl) hHeld ?_ ?_
              rotate_left
              · rintro wh ⟨z0, z1, z2⟩
                go_simp
                (try with_reducible rfl)
              simp only [Act.put, List.setIfInBounds_toArray, List.set_cons_zero, List.set_cons_succ]
              refine held_take (i := 27) (v := ?_) rfl rfl (by kernel_rfl) (by kernel_rfl) (by kernel_rfl) (fun _ _ _ h => h) (by rfl) hHeld ?_ ?_
              rotate_left
              · rintro wh ⟨z0, z1, z2⟩
                go_simp
                (try with_reducible rfl)
              simp only [Act.put, List.setIfInBounds_toArray, List.set_cons_zero, List.set_cons_succ]
              refine held_take (i := 28) (v := ?_) rfl rfl (by kernel_rfl) (by kernel_rfl) (by kernel_rfl) (fun _ _ _ h => h) (by rfl) hHeld ?_ ?_
              rotate_left
              · rintro wh ⟨z0, z1, z2⟩
                go_simp
                (try with_reducible rfl)
              simp only [Act.put, List.setIfInBounds_toArray, List.set_cons_zero, List.set_cons_succ]
              refine held_take (i := 29) (v := ?_) rfl rfl (by kernel_rfl) (by kernel_rfl) (by kernel_rfl) (fun _ _ _ h => h) (by rfl) hHeld ?_ ?_
              rotate_left
              · rintro wh ⟨z0, z1, z2⟩
                go_simp
                (try with_reducible rfl)
              simp only [Act.put, List.setIfInBounds_toArray, List.set_cons_zero, List.set_cons_succ]
              refine held_take (i := 30) (v := ?_) rfl rfl (by kernel_rfl) (by kernel_rfl) (by kernel_rfl) (fun _ _ _ h => h) (by rfl) hHeld ?_ ?_
              rotate_left
              · rintro wh ⟨z0, z1, z2⟩
                go_simp
                (try with_reducible rfl)
              simp only [Act.put, List.setIfInBounds_toArray, List.set_cons_zero, List.set_cons_succ]
              refine held_call (i := 31) rfl (by kernel_rfl) (by rfl) (fun K hK => ?_)
              (go_simp; go_at_call 125; refine (hah _).mono ?_; rintro e w2 ⟨rfl, hb2⟩; have hB2 : Below wr.heap.size wr w2 := hB1.trans hb2)
              refine hK.out _ _ ⟨keep_cell a0 hB2 hwb, keep_cell a1 hB2 hwb, keep_cell az hB2 hwb⟩ (fun hHeld => ?_)
              clear hK K
              (try simp only [Act.put, List.setIfInBounds_toArray, List.set_cons_zero, List.set_cons_succ])
              refine held_take (i := 32) (v := ?_) rfl rfl (by kernel_rfl) (by kernel_rfl) (by kernel_rfl) (fun _ _ _ h => h) (by rfl) hHeld ?_ ?_
              rotate_left
              · rintro wh ⟨z0, z1, z2⟩
                go_simp
                (try with_reducible rfl)
              simp only [Act.put, List.setIfInBounds_toArray, List.set_cons_zero, List.set_cons_succ]
              refine held_take (i := 33) (v := ?_) rfl rfl (by kernel_rfl) (by kernel_rfl) (by kernel_rfl) (fun _ _ _ h => h) (by rfl) hHeld ?_ ?_
              rotate_left
              · rintro wh ⟨z0, z1, z2⟩
                go_simp
                (try with_reducible rfl)
              simp only [Act.put, List.setIfInBounds_toArray, List.set_cons_zero, List.set_cons_succ]
              refine held_take (i := 34) (v := ?_) rfl rfl (by kernel_rfl) (by kernel_rfl) (by kernel_rfl) (fun _ _ _ h => h) (by rfl) hHeld ?_ ?_
              rotate_left
              · rintro wh ⟨z0, z1, z2⟩
                go_simp
                (try with_reducible rfl)
              simp only [Act.put, List.setIfInBounds_toArray, List.set_cons_zero, List.set_cons_succ]
              refine wpAnyH_done (by kernel_rfl) ?_ _
              have hbn : Below w.heap.size w w2 := hbr.trans (hB2.mono hbr.size)
              clear hB1 hB2 hb2 hn hah
              go_wp2
              go_roundw
              case rel => exact ⟨k + 1, by omega, by go_num, HN, hbn⟩
              case measure => (simp [intOf]; try omega)
        · have g1 : (200 : Int) < (y.size : Int) := by omega
          have HZ := hbad (by rw [hnm, decide_eq_false hy2]; rfl)
          clear hstep hbad hall hnm hy2 hfs
          go_upto_region 4 with fail
          refine wp_region_held_drew (S := (fun W => W.cell? ⟨b, o + k * 2, none⟩ = some (.string x) ∧ W.cell? ⟨b, o + k * 2 + 1, none⟩ = some (.string y))) (by kernel_rfl) ⟨a0, a1⟩ (fun hHeld => ?_)
          refine held_take (i := 0) (v := ?_) rfl rfl (by kernel_rfl) (by kernel_rfl) (by kernel_rfl) (fun _ _ _ h => h) (by rfl) hHeld ?_ ?_
          rotate_left
          · rintro wh ⟨z0, z1⟩
            go_simp
            (try with_reducible rfl)
          simp only [Act.put, List.setIfInBounds_toArray, List.set_cons_zero, List.set_cons_succ]
          refine held_take (i := 1) (v := ?_) rfl rfl (by kernel_rfl) (by kernel_rfl) (by kernel_rfl) (fun _ _ _ h => h) (by rfl) hHeld ?_ ?_
          rotate_left
          · rintro wh ⟨z0, z1⟩
            go_simp
            (try with_reducible rfl)
          simp only [Act.put, List.setIfInBounds_toArray, List.set_cons_zero, List.set_cons_succ]
          refine held_take (i := 2) (v := ?_) rfl rfl (by kernel_rfl) (by kernel_rfl) (by kernel_rfl) (fun _ _ _ h => h) (by rfl) hHeld ?_ ?_
          rotate_left
          · rintro wh ⟨z0, z1⟩
            go_simp
            (try with_reducible rfl)
          simp only [Act.put, List.setIfInBounds_toArray, List.set_cons_zero, List.set_cons_succ]
          refine held_take (i := 3) (v := ?_) rfl rfl (by kernel_rfl) (by kernel_rfl) (by kernel_rfl) (fun _ _ _ h => h) (by rfl) hHeld ?_ ?_
          rotate_left
          · rintro wh ⟨z0, z1⟩
            go_simp
            (try with_reducible rfl)
          simp only [Act.put, List.setIfInBounds_toArray, List.set_cons_zero, List.set_cons_succ]
          refine held_take (i := 4) (v := ?_) rfl rfl (by kernel_rfl) (by kernel_rfl) (by kernel_rfl) (fun _ _ _ h => h) (by rfl) hHeld ?_ ?_
          rotate_left
          · rintro wh ⟨z0, z1⟩
            go_simp
            (try with_reducible rfl)
          simp only [Act.put, List.setIfInBounds_toArray, List.set_cons_zero, List.set_cons_succ]
          refine held_call (i := 5) rfl (by kernel_rfl) (by rfl) (fun K hK => ?_)
          (go_simp; go_at_call 55; refine (hn _).mono ?_; rintro e w1 ⟨rfl, rfl⟩; have hB1 : Below wr.heap.size wr wr.drew := (Below.refl _ _).drew)
          refine hK.out _ _ ⟨keep_cell a0 hB1 hwb, keep_cell a1 hB1 hwb⟩ (fun hHeld => ?_)
          clear hK K
          (try simp only [Act.put, List.setIfInBounds_toArray, List.set_cons_zero, List.set_cons_succ])
          refine held_take (i := 6) (v := ?_) rfl rfl (by kernel_rfl) (by kernel_rfl) (by kernel_rfl) (fun _ _ _ h => h) (by rfl) hHeld ?_ ?_
          rotate_left
          · rintro wh ⟨z0, z1⟩
            go_simp
            (try with_reducible rfl)
          simp only [Act.put, List.setIfInBounds_toArray, List.set_cons_zero, List.set_cons_succ]
          refine held_take (i := 7) (v := ?_) rfl rfl (by kernel_rfl) (by kernel_rfl) (by kernel_rfl) (fun _ _ _ h => h) (by rfl) hHeld ?_ ?_
          rotate_left
          · rintro wh ⟨z0, z1⟩
            go_simp
            (try with_reducible rfl)
          simp only [Act.put, List.setIfInBounds_toArray, List.set_cons_zero, List.set_cons_succ]
          refine held_take (i := 8) (v := ?_) rfl rfl (by kernel_rfl) (by kernel_rfl) (by kernel_rfl) (fun _ _ _ h => h) (by rfl) hHeld ?_ ?_
          rotate_left
          · rintro wh ⟨z0, z1⟩
            go_simp
            (try with_reducible rfl)
          simp only [Act.put, List.setIfInBounds_toArray, List.set_cons_zero, List.set_cons_succ]
          refine held_take (i := 9) (v := ?_) rfl rfl (by kernel_rfl) (by kernel_rfl) (by kernel_rfl) (fun _ _ _ h => h) (by rfl) hHeld ?_ ?_
          rotate_left
          · rintro wh ⟨z0, z1⟩
            go_simp
            (try with_reducible rfl)
          simp only [Act.put, List.setIfInBounds_toArray, List.set_cons_zero, List.set_cons_succ]
          refine held_take (i := 10) (v := ?_) rfl rfl (by kernel_rfl) (by kernel_rfl) (by kernel_rfl) (fun _ _ _ h => h) (by rfl) hHeld ?_ ?_
          rotate_left
          · rintro wh ⟨z0, z1⟩
            go_simp
            (try with_reducible rfl)
          simp only [Act.put, List.setIfInBounds_toArray, List.set_cons_zero, List.set_cons_succ]
          refine held_take (i := 11) (v := ?_) rfl rfl (by kernel_rfl) (by kernel_rfl) (by kernel_rfl) (fun _ _ _ h => h) (by rfl) hHeld ?_ ?_
          rotate_left
          · rintro wh ⟨z0, z1⟩
            go_simp
            (try with_reducible rfl)
          simp only [Act.put, List.setIfInBounds_toArray, List.set_cons_zero, List.set_cons_succ]
          refine held_take (i := 12) (v := ?_) rfl rfl (by kernel_rfl) (by kernel_rfl) (by kernel_rfl) (fun _ _ _ h => h) (by rfl) hHeld ?_ ?_
          rotate_left
          · rintro wh ⟨z0, z1⟩
            go_simp
            (try with_reducible rfl)
          simp only [Act.put, List.setIfInBounds_toArray, List.set_cons_zero, List.set_cons_succ]
          refine held_take (i := 13) (v := ?_) rfl rfl (by kernel_rfl) (by kernel_rfl) (by kernel_rfl) (fun _ _ _ h => h) (by rfl) hHeld ?_ ?_
          rotate_left
          · rintro wh ⟨z0, z1⟩
            go_simp
            (try with_reducible rfl)
          simp only [Act.put, List.setIfInBounds_toArray, List.set_cons_zero, List.set_cons_succ]
          refine held_take (i := 14) (v := ?_) rfl rfl (by kernel_rfl) (by kernel_rfl) (by kernel_rfl) (fun _ _ _ h => h) (by rfl) hHeld ?_ ?_
          rotate_left
          · rintro wh ⟨z0, z1⟩
            go_simp
            (try with_reducible rfl)
          simp only [Act.put, List.setIfInBounds_toArray, List.set_cons_zero, List.set_cons_succ]
          refine held_take (i := 15) (v := ?_) rfl rfl (by kernel_rfl) (by kernel_rfl) (by kernel_rfl) (fun _ _ _ h => h) (by rfl) hHeld ?_ ?_
          rotate_left
          · rintro wh ⟨z0, z1⟩
            go_simp
            (try with_reducible rfl)
          simp only [Act.put, List.setIfInBounds_toArray, List.set_cons_zero, List.set_cons_succ]
          refine held_take (i := 16) (v := ?_) rfl rfl (by kernel_rfl) (by kernel_rfl) (by kernel_rfl) (fun _ _ _ h => h) (by rfl) hHeld ?_ ?_
          rotate_left
          · rintro wh ⟨z0, z1⟩
            go_simp
            (try with_reducible rfl)
          simp only [Act.put, List.setIfInBounds_toArray, List.set_cons_zero, List.set_cons_succ]
          refine held_skip (i := 17) rfl rfl (by kernel_rfl) (by kernel_rfl) (by kernel_rfl) (fun _ _ _ h => h) (by rfl) hHeld ?_
          simp only [Act.put, List.setIfInBounds_toArray, List.set_cons_zero, List.set_cons_succ]
          refine held_skip (i := 18) rfl rfl (by kernel_rfl) (by kernel_rfl) (by kernel_rfl) (fun _ _ _ h => h) (by rfl) hHeld ?_
          simp only [Act.put, List.setIfInBounds_toArray, List.set_cons_zero, List.set_cons_succ]
          refine held_skip (i := 19) rfl rfl (by kernel_rfl) (by kernel_rfl) (by kernel_rfl) (fun _ _ _ h => h) (by rfl) hHeld ?_
          simp only [Act.put, List.setIfInBounds_toArray, List.set_cons_zero, List.set_cons_succ]
          refine held_skip (i := 20) rfl rfl (by kernel_rfl) (by kernel_rfl) (by kernel_rfl) (fun _ _ _ h => h) (by rfl) hHeld ?_
          simp only [Act.put, List.setIfInBounds_toArray, List.set_cons_zero, List.set_cons_succ]
          refine held_skip (i := 21) rfl rfl (by kernel_rfl) (by kernel_rfl) (by kernel_rfl) (fun _ _ _ h => h) (by rfl) hHeld ?_
          simp only [Act.put, List.setIfInBounds_toArray, List.set_cons_zero, List.set_cons_succ]
          refine held_skip (i := 22) rfl rfl (by kernel_rfl) (by kernel_rfl) (by kernel_rfl) (fun _ _ _ h => h) (by rfl) hHeld ?_
          simp only [Act.put, List.setIfInBounds_toArray, List.set_cons_zero, List.set_cons_succ]
          refine held_skip (i := 23) rfl rfl (by kernel_rfl) (by kernel_rfl) (by kernel_rfl) (fun _ _ _ h => h) (by rfl) hHeld ?_
          simp only [Act.put, List.setIfInBounds_toArray, List.set_cons_zero, List.set_cons_succ]
          refine held_skip (i := 24) rfl rfl (by kernel_rfl) (by kernel_rfl) (by kernel_rfl) (fun _ _ _ h => h) (by rfl) hHeld ?_
          simp only [Act.put, List.setIfInBounds_toArray, List.set_cons_zero, List.set_cons_succ]
          refine held_skip (i := 25) rfl rfl (by kernel_rfl) (by kernel_rfl) (by kernel_rfl) (fun _ _ _ h => h) (by rfl) hHeld ?_
          simp only [Act.put, List.setIfInBounds_toArray, List.set_cons_zero, List.set_cons_succ]
          refine held_skip (i := 26) rfl rfl (by kernel_rfl) (by kernel_rfl) (by kernel_rfl) (fun _ _ _ h => h) (by rfl) hHeld ?_
          simp only [Act.put, List.setIfInBounds_toArray, List.set_cons_zero, List.set_cons_succ]
          refine held_skip (i := 27) rfl rfl (by kernel_rfl) (by kernel_rfl) (by kernel_rfl) (fun _ _ _ h => h) (by rfl) hHeld ?_
          simp only [Act.put, List.setIfInBounds_toArray, List.set_cons_zero, List.set_cons_succ]
          refine held_skip (i := 28) rfl rfl (by kernel_rfl) (by kernel_rfl) (by kernel_rfl) (fun _ _ _ h => h) (by rfl) hHeld ?_
          simp only [Act.put, List.setIfInBounds_toArray, List.set_cons_zero, List.set_cons_succ]
          refine held_skip (i := 29) rfl rfl (by kernel_rfl) (by kernel_rfl) (by kernel_rfl) (fun _ _ _ h => h) (by rfl) hHeld ?_
          simp only [Act.put, List.setIfInBounds_toArray, List.set_cons_zero, List.set_cons_succ]
          refine held_skip (i := 30) rfl rfl (by kernel_rfl) (by kernel_rfl) (by kernel_rfl) (fun _ _ _ h => h) (by rfl) hHeld ?_
          simp only [Act.put, List.setIfInBounds_toArray, List.set_cons_zero, List.set_cons_succ]
          refine held_skip (i := 31) rfl rfl (by kernel_rfl) (by kernel_rfl) (by kernel_rfl) (fun _ _ _ h => h) (by rfl) hHeld ?_
          simp only [Act.put, List.setIfInBounds_toArray, List.set_cons_zero, List.set_cons_succ]
          refine held_skip (i := 32) rfl rfl (by kernel_rfl) (by kernel_rfl) (by kernel_rfl) (fun _ _ _ h => h) (by rfl) hHeld ?_
          simp only [Act.put, List.setIfInBounds_toArray, List.set_cons_zero, List.set_cons_succ]
          refine held_skip (i := 33) rfl rfl (by kernel_rfl) (by kernel_rfl) (by kernel_rfl) (fun _ _ _ h => h) (by rfl) hHeld ?_
          simp only [Act.put, List.setIfInBounds_toArray, List.set_cons_zero, List.set_cons_succ]
          refine held_take (i := 34) (v := ?_) rfl rfl (by kernel_rfl) (by kernel_rfl) (by kernel_rfl) (fun _ _ _ h => h) (by rfl) hHeld ?_ ?_
          rotate_left
          · rintro wh ⟨z0, z1⟩
            go_simp
            (try with_reducible rfl)
          simp only [Act.put, List.setIfInBounds_toArray, List.set_cons_zero, List.set_cons_succ]
          refine wpAnyH_done (by kernel_rfl) ?_ _
          have hbn : Below w.heap.size w wr.drew := hbr.trans (hB1.mono hbr.size)
          clear hB1 hn
          generalize wr.drew = wq at *
          go_wp2
          go_ret
          exact ⟨by rw [HZ.out]; rfl, hbn⟩
    · obtain rfl : k = l.length := by omega
      have HG : Hid (rightF l = decide (l.length ≤ 8)) := rightF_good HT.out
      clear HT
      by_cases h8 : l.length ≤ 8
      · have h8' : ((l.length : Int) ≤ 8) := by omega
        go_wp2
        go_ret
        exact ⟨by rw [HG.out]; simp; omega, hbr⟩
      · have h8' : (8 : Int) < (l.length : Int) := by omega
        go_wp2
        go_ret
        exact ⟨by rw [HG.out]; simp; omega, hbr⟩
end Go.Proofs.YtcfococinllcmaaGreat

