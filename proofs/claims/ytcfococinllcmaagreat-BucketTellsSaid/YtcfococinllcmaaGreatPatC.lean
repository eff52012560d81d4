/- pattern's builder: peek, fail: contracts. -/
import Derived.Test.YtcfococinllcmaaGreatRows
import Derived.Test.YtcfococinllcmaaGreatPatB
import Derived.WalkKit
import Derived.WalkSpells
import Derived.WalkLawsBesides
import Derived.BigQuiet
import Derived.Deep.QuietTactic
import Derived.Lib.Hide
namespace Go.Proofs.YtcfococinllcmaaGreat
open Go.RowKit

theorem peekM_of {s : ByteArray} {b : Bs} (he : b.err = 0) (hp : b.pos < s.size) : peekM s b = some (byteM s b.pos) := by unfold peekM; rw [if_pos ⟨he, hp⟩]
theorem byteM_at (s : ByteArray) (k : Nat) (h : k < s.size) : ((s[k]'h).toNat : Int) = (byteM s k : Int) := by unfold byteM; rw [dif_pos h]
set_option maxHeartbeats 1600000 in
set_option maxRecDepth 100000 in
theorem peek_is (w : World) (g : Nat) (s : ByteArray) (b : Bs) (own : Nat → Prop) (o : Option Nat) (ho : peekM s b = o) (h : Bld w g s b own) (hp : b.pos ≤ 2000000) :
    Calls Tryz.prog 154 #[.pointer (some ⟨g, 0, none⟩)] w fun e w' => e = .returned (.tuple #[.int .u8 ((o.getD 0 : Nat) : Int), .bool o.isSome]) ∧ Below w.heap.size w w' := by
  obtain ⟨sv, es, hB⟩ := h
  obtain ⟨c0, c1, c2, c3, _⟩ := hB.cells
  obtain ⟨pos, err, sts⟩ := b
  dsimp only at c1 c2 hp
  clear hB
  by_cases he : err = 0
  · subst he
    by_cases hps : pos < s.size
    · have hb : peekM s ⟨pos, 0, sts⟩ = some (byteM s pos) := peekM_of rfl hps
      rw [hb] at ho
      subst ho
      have hn : decide ((pos : Int) < (s.size : Int)) = true := by simpa using hps
      have hn2 : decide ((s.size : Int) ≤ (pos : Int)) = false := by simpa using hps
      have hn3 : decide (s.size ≤ pos) = false := by simpa using hps
      have hi : (0 : Int) ≤ (pos : Int) := by omega
      have hi2 : (pos : Int) < (s.size : Int) := by omega
      have HB := byteM_at s pos hps
      have HB' := Lib.hid HB
      clear hb HB
      go_enter Tryz.func154, Tryz.ntmps154
      go_wp2
      go_quiet (fail)
      go_wp2
      go_quiet (fail)
      go_wp2
      go_ret2
      refine ⟨?_, ?_⟩
      · simp only [Option.getD_some, Option.isSome_some]
        rw [← HB'.out]
        rfl
      · exact bl_drewN (bl_drewN (Below.refl _ _) _) _
    · have hb : peekM s ⟨pos, 0, sts⟩ = none := by unfold peekM; rw [if_neg (fun h => hps h.2)]
      rw [hb] at ho
      subst ho
      have hn : decide ((pos : Int) < (s.size : Int)) = false := by simpa using hps
      have hn2 : decide ((s.size : Int) ≤ (pos : Int)) = true := by simp; omega
      have hn3 : decide (s.size ≤ pos) = true := by simp; omega
      clear hb
      go_enter Tryz.func154, Tryz.ntmps154
      go_wp2
      go_quiet (fail)
      go_wp2
      go_ret2
      exact ⟨rfl, bl_drewN (Below.refl _ _) _⟩
  · have hb : peekM s ⟨pos, err, sts⟩ = none := by unfold peekM; rw [if_neg (fun h => he h.1)]
    rw [hb] at ho
    subst ho
    have hd : (err != 0) = true := by simpa using he
    have hd2 : (err == 0) = false := by simpa using he
    clear hb
    go_enter Tryz.func154, Tryz.ntmps154
    go_wp2
    go_quiet (fail)
    go_wp2
    go_ret2
    exact ⟨rfl, bl_drewN (Below.refl _ _) _⟩
set_option maxHeartbeats 800000 in
set_option maxRecDepth 100000 in
theorem fail_is (w : World) (g : Nat) (s : ByteArray) (b : Bs) (own : Nat → Prop) (e0 : Int) (h : Bld w g s b own) :
    Calls Tryz.prog 127 #[.pointer (some ⟨g, 0, none⟩), .int .i64 e0] w fun e w' => e = .returned (.tuple #[]) ∧ Bld w' g s (failM b e0) own ∧ Stp own w own w' := by
  have h' := h
  obtain ⟨sv, es, hB⟩ := h
  obtain ⟨c0, c1, c2, c3, fz⟩ := hB.cells
  have f2 := fz 2
  have hog := hB.og
  obtain ⟨pos, err, sts⟩ := b
  dsimp only at c1 c2
  clear hB fz
  by_cases he : err = 0
  · subst he
    have HN := Lib.hid (h'.err e0)
    have HF : Hid (failM ⟨pos, 0, sts⟩ e0 = ⟨pos, e0, sts⟩) := Lib.hid rfl
    clear h'
    go_enter Tryz.func127, Tryz.ntmps127
    go_wp2
    go_end0
    refine ⟨rfl, ?_, Stp.setCell hog _⟩
    rw [HF.out]
    exact HN.out
  · have hd2 : (err == 0) = false := by simpa using he
    have HF : Hid (failM ⟨pos, err, sts⟩ e0 = ⟨pos, err, sts⟩) := Lib.hid (by unfold failM; rw [if_neg he])
    have HN := Lib.hid h'
    clear h'
    go_enter Tryz.func127, Tryz.ntmps127
    go_wp2
    go_end0
    refine ⟨rfl, ?_, Stp.refl _ _⟩
    rw [HF.out]
    exact HN.out
end Go.Proofs.YtcfococinllcmaaGreat
