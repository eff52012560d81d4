/- silences: Numbers. -/
import Derived.Test.YtcfococinllcmaaGreatSlDel
import Derived.Test.YtcfococinllcmaaGreatShB
import Derived.Shelf.SlIterI.Nil
import Derived.Shelf.AbstractIn
import Derived.Test.YtcfococinllcmaaGreatInts
namespace Go.Proofs.YtcfococinllcmaaGreat
open Go.RowKit Go.Maps Go.Sort Go.Shelf

theorem sortsS (m : Nat) : AnyZI.SortsIn Tryz.prog Tryz.sortedS_ren Fence.wide m :=
  ⟨fun blk off cap ss W hH hblk hsz => callsIn_wide.2 (Tryz.slices_Sort_int blk off cap ss W hH hblk hsz),
   fun p cap W => callsIn_wide.2 (Tryz.slices_Sort_int_none p cap W)⟩
theorem sorted_ids {S : List Sil} (h : UpS S) {ss : List Int} (hp : ss.Perm (intKeys (DS S))) : ss.mergeSort (fun x y => decide (x ≤ y)) = S.map (·.id) := by
  rw [DS_keys] at hp
  have h1 : (ss.mergeSort fun x y => decide (x ≤ y)).Pairwise (fun a b => decide (a ≤ b) = true) := List.pairwise_mergeSort (fun a b c h1 h2 => by simp at *; omega) (fun a b => by simp; omega) ss
  have h2 : (S.map (·.id)).Pairwise (fun a b => decide (a ≤ b) = true) := List.pairwise_map.2 (h.imp fun {a b} hab => by simp; omega)
  exact List.Perm.eq_of_pairwise (fun a b _ _ h1 h2 => by simp at h1 h2; omega) h1 h2 ((List.mergeSort_perm _ _).trans hp)
set_option maxHeartbeats 2000000 in
set_option maxRecDepth 100000 in
theorem num_any (lp m n : Nat) (S : List Sil) (last : Int) (w : World) (h : SlAt w lp m n S last) :
    Calls Tryz.prog 30 #[.pointer (some ⟨lp, 0, none⟩)] w fun e w' =>
      ∃ v, e = .returned v ∧ w'.ownsRow w.heap.size 3 1 v S.length ((S.map (·.id)).map I) ∧ Below w.heap.size w w' := by
  refine (callsIn_wide (n := 6)).1 ?_
  have hbl := h.own.lt
  have hown := h.own
  have hmax : Maps.size (DS S) ≤ maxLen := by have := hown.size_le; have := h.len; unfold maxLen; omega
  have hbytes : Maps.size (DS S) * 8 ≤ 140737488355328 := by have := hown.size_le; have := h.len; omega
  have hseq : SeqGives Fence.wide 2 Tryz.prog 97 #[.pointer (some ⟨w.heap.size, 0, none⟩)] encZ (fun ss => ss.Perm (intKeys (DS S))) (Maps.size (DS S)) (w.alloc (.cells #[.map (some m)] 115)) :=
    AnyZI.keys_gives (ρ := Tryz.keysS_ren) { Tryz.keysS with } Fence.wide _ trivial rfl (by omega) w.heap.size m n (DS S) _ (by simp) (by simp) (by
      obtain ⟨es, clock, hb, Ft, hs, hD⟩ := hown
      exact ⟨es, clock, (Below.heap_alloc _ _ m hbl).trans hb, Ft, hs, hD⟩)
  have cK : ∀ mb W, CallsIn Fence.wide 5 Tryz.prog 68 #[.map mb] W fun e w' => e = .returned (.func (.func 97) #[] #[.pointer (some ⟨W.heap.size, 0, none⟩)]) ∧ w' = W.alloc (.cells #[.map mb] 115) := fun mb W => AnyZI.keys_in Tryz.keysS Fence.wide 5 trivial rfl mb W
  have cS := AnyZI.sorted_in Tryz.sortedS Fence.wide 5 trivial trivial trivial trivial rfl (by omega) (sortsS _) (enters_of Tryz.func96 (by kernel_rfl) rfl) 97 #[.pointer (some ⟨w.heap.size, 0, none⟩)] trivial (enters_of Tryz.func97 (by kernel_rfl) rfl) _ _ hmax hbytes _ hseq
  change CallsIn _ _ Tryz.prog 67 _ _ _ at cS
  have hfK : Fence.wide.fn 68 := trivial
  have hfS : Fence.wide.fn 67 := trivial
  have l0 := h.h0
  have HU := Lib.hid h.up
  clear hseq hown hmax hbytes h
  refine callsIn_of_wp Tryz.func30 rfl trivial ?_ rfl
  simp only [Tryz.ntmps30, List.size_toArray, List.length_cons, List.length_nil, Nat.reduceAdd, Nat.reduceSub, Array.replicate_succ, Array.replicate_zero, List.push_toArray, List.append_toArray, List.nil_append, List.cons_append]
  gi_wp2_with (first
    | (gi_at_call 68; refine (cK _ _).mono ?_; rintro e w' ⟨rfl, rfl⟩)
    | (gi_at_call 67; refine cS.mono ?_; rintro e w' ⟨v, ss, rfl, hS, hrow, hnil, hb⟩))
  go_ret
  rw [sorted_ids HU.out hS] at hrow
  have hl : ss.length = S.length := by rw [hS.length_eq, DS_keys, List.length_map]
  rw [hl] at hrow
  exact ⟨v, rfl, ownsRow_base_a hrow (by simp), ((Below.refl _ w).alloc (Nat.le_refl _) _).trans (hb.mono (by simp))⟩
end Go.Proofs.YtcfococinllcmaaGreat
