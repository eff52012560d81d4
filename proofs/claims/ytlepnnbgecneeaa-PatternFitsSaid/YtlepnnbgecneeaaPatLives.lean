/- lychgatelaw05's lives; Text, Least and Fits of no pattern: contracts. -/
import Derived.Test.YtlepnnbgecneeaaPatQ
import Derived.Test.YtlepnnbgecneeaaPatZ
namespace Go.Proofs.Ytlepnnbgecneeaa
open Go.RowKit

theorem runR_en (p : ByteArray) : (runR p).2.2 < (endR p).sts.length := by rw [endR_sts]; exact (runR_ok p).p2
theorem least_nil (w : World) : Calls Try.prog 11 #[.pointer none] w fun e w' => e = .returned (.tuple #[.string ⟨#[]⟩, .bool false]) ∧ w' = w := by
  go_enter Try.func11, Try.ntmps11
  go_wp2
  go_ret2
  exact ⟨rfl, rfl⟩
theorem text_nil (w : World) : Calls Try.prog 18 #[.pointer none] w fun e w' => e = .returned (.string ⟨#[]⟩) ∧ w' = w := by
  go_enter Try.func18, Try.ntmps18
  go_wp2
  go_ret
  exact ⟨rfl, rfl⟩
theorem text_is (w : World) (a : Nat) (s : ByteArray) (sts : List St) (st en : Nat) (hp : PatAt w a s sts st en) : Calls Try.prog 18 #[.pointer (some ⟨a, 0, none⟩)] w fun e w' => e = .returned (.string s) ∧ w' = w := by
  obtain ⟨_, _, _, _, c0, _, _, halt, _⟩ := hp.cells
  go_enter Try.func18, Try.ntmps18
  go_wp2
  go_ret
  exact ⟨rfl, rfl⟩
/-- a pattern that was read: what its methods hand back -/
theorem rfits_is (w : World) (a : Nat) (p t : ByteArray) (he : errM p = 0) (hp : PatAt w a p (endR p).sts (runR p).2.1 (runR p).2.2) (ht : t.size ≤ maxLen) :
    Calls Try.prog 12 #[.pointer (some ⟨a, 0, none⟩), .string t] w fun e w' => ∃ b, e = .returned (.bool b) ∧ (b = true ↔ Rn (endR p).sts (runR p).2.1 (bytesN t) (runR p).2.2) ∧ Below w.heap.size w w' :=
  pfits_is w a p _ _ _ t hp (runR_swf p) (runR_len p (errM_size he)) (runR_st p) ht
theorem rleast_is (w : World) (a : Nat) (p : ByteArray) (he : errM p = 0) (hp : PatAt w a p (endR p).sts (runR p).2.1 (runR p).2.2) :
    Calls Try.prog 11 #[.pointer (some ⟨a, 0, none⟩)] w fun e w' => ∃ b t, e = .returned (.tuple #[.string t, .bool b]) ∧ Below w.heap.size w w' ∧ t.size ≤ 300 ∧
      ((b = true ∧ LeastP (endR p).sts (runR p).2.1 (runR p).2.2 (bytesN t)) ∨ (b = false ∧ t = ⟨#[]⟩ ∧ ∀ cs, (∀ c ∈ cs, c < 256) → cs.length ≤ 300 → ¬ Rn (endR p).sts (runR p).2.1 cs (runR p).2.2)) :=
  least_is w a p _ _ _ hp (runR_swf p) (runR_len p (errM_size he)) (runR_st p) (runR_en p)
theorem mapNat_inj : ∀ {a b : List UInt8}, a.map (fun x => x.toNat) = b.map (fun x => x.toNat) → a = b
  | [], [], _ => rfl
  | [], _ :: _, h => by simp at h
  | _ :: _, [], h => by simp at h
  | x :: a, y :: b, h => by
    rw [List.map_cons, List.map_cons] at h
    injection h with h1 h2
    rw [UInt8.toNat_inj.1 h1, mapNat_inj h2]
theorem bytesN_inj {s t : ByteArray} (h : bytesN s = bytesN t) : s = t := by
  have e : B s = B t := by
    unfold bytesN at h
    exact mapNat_inj h
  cases s; cases t
  congr 1
  exact Array.toList_inj.1 e
theorem lb_true {b : Bool} {P : Prop} (h : b = true ↔ P) (hp : P) : b = true := h.2 hp
theorem lb_false {b : Bool} {P : Prop} (h : b = true ↔ P) (hp : ¬ P) : b = false := by cases b with
  | false => rfl
  | true => exact absurd (h.1 rfl) hp
set_option maxHeartbeats 3200000 in
set_option maxRecDepth 100000 in
theorem lives_is (w : World) : Calls Try.prog 9 #[] w fun e w' => e = .returned (.bool true) ∧ Below w.heap.size w w' := by
  have hr : Calls Try.prog 10 #[.string ⟨#[97, 124, 98, 91, 48, 45, 57, 93, 42]⟩] w (ReadPost livS w) := read_is livS w
  have hf : ∀ W a (t : ByteArray) (cs : List Nat) (b : Bool), PatAt W a livS livT livA livE → bytesN t = cs → fitC livT livA livE cs = some b → t.size ≤ maxLen → Calls Try.prog 12 #[.pointer (some ⟨a, 0, none⟩), .string t] W fun e w' => e = .returned (.bool b) ∧ Below W.heap.size W w' := fun W a t cs b hp hb hfc ht => by
    refine (rfits_is W a livS t liv_err hp ht).mono ?_
    rintro e w' ⟨b', rfl, h1, h2⟩
    rw [hb] at h1
    have h3 := fitC_iff hfc
    have h4 : b' = b := by
      rw [Bool.eq_iff_iff]; exact h1.trans h3.symm
    rw [h4]
    exact ⟨rfl, h2⟩
  have hl : ∀ W a, PatAt W a livS livT livA livE → Calls Try.prog 11 #[.pointer (some ⟨a, 0, none⟩)] W fun e w' => e = .returned (.tuple #[.string ⟨#[97]⟩, .bool true]) ∧ Below W.heap.size W w' := fun W a hp => by
    refine (rleast_is W a livS liv_err hp).mono ?_
    rintro e w' ⟨b, t, rfl, h1, _, ⟨rfl, h2⟩ | ⟨_, _, h2⟩⟩
    · have h3 := liv_least h2
      have h4 : t = ⟨#[97]⟩ := bytesN_inj (h3.trans rfl)
      rw [h4]
      exact ⟨rfl, h1⟩
    · exact absurd ((fitC_iff liv_a).1 rfl) (h2 [97] (by simp) (by simp))
  have hR : ∀ W, Calls Try.prog 14 #[.string ⟨#[40]⟩] W fun e w' => e = .returned (.int .i64 2) ∧ Below W.heap.size W w' := fun W => by
    refine (right_is ⟨#[40]⟩ W).mono ?_
    rintro e w' ⟨rfl, h⟩
    rw [liv_open]
    exact ⟨rfl, h⟩
  have HF := Lib.hid hf
  have HL := Lib.hid hl
  have HR := Lib.hid hR
  clear hf hl hR
  go_enter Try.func9, Try.ntmps9
  go_wp2_with fail
  refine hr.mono ?_
  rintro e w1 ⟨hb1, ⟨hne, _⟩ | ⟨he, a, rfl, hp, _⟩⟩
  · exact absurd liv_err hne
  · have HP1 : Hid (PatAt w1 a livS livT livA livE) := Lib.hid hp
    clear hr hp he
    have k1 := HL.out w1 a HP1.out
    go_wp2_with fail
    refine k1.mono ?_
    rintro e w2 ⟨rfl, hb2⟩
    have HP2 := Lib.hid (HP1.out.below hb2)
    have B2 := hb1.trans (hb2.mono hb1.size)
    have k2 := HF.out w2 a ⟨#[97]⟩ [97] true HP2.out rfl liv_a (by decide)
    clear k1 hb1 hb2 HP1
    go_wp2_with fail
    refine k2.mono ?_
    rintro e w3 ⟨rfl, hb3⟩
    have HP3 := Lib.hid (HP2.out.below hb3)
    have B3 := B2.trans (hb3.mono B2.size)
    have k3 := HF.out w3 a ⟨#[98]⟩ [98] true HP3.out rfl liv_b (by decide)
    clear k2 B2 hb3 HP2
    go_wp2_with fail
    refine k3.mono ?_
    rintro e w4 ⟨rfl, hb4⟩
    have HP4 := Lib.hid (HP3.out.below hb4)
    have B4 := B3.trans (hb4.mono B3.size)
    have k4 := HF.out w4 a ⟨#[98, 55]⟩ [98, 55] true HP4.out rfl liv_b7 (by decide)
    clear k3 B3 hb4 HP3
    go_wp2_with fail
    refine k4.mono ?_
    rintro e w5 ⟨rfl, hb5⟩
    have HP5 := Lib.hid (HP4.out.below hb5)
    have B5 := B4.trans (hb5.mono B4.size)
    have k5 := HF.out w5 a ⟨#[97, 98]⟩ [97, 98] false HP5.out rfl liv_ab (by decide)
    clear k4 B4 hb5 HP4
    go_wp2_with fail
    refine k5.mono ?_
    rintro e w6 ⟨rfl, hb6⟩
    have B6 := B5.trans (hb6.mono B5.size)
    have k6 := HR.out w6
    clear k5 B5 hb6 HP5
    go_wp2_with fail
    refine k6.mono ?_
    rintro e w7 ⟨rfl, hb7⟩
    have B7 := B6.trans (hb7.mono B6.size)
    clear k6 B6 hb7
    go_wp2
    go_ret
    exact ⟨rfl, B7⟩
end Go.Proofs.Ytlepnnbgecneeaa
