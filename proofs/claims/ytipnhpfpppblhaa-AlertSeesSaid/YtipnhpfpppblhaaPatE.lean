/- pattern's builder: a state's bytes: the plain part, and one's walk. -/
import Derived.Test.YtipnhpfpppblhaaPatD
import Derived.Test.YtipnhpfpppblhaaHeldT
import Derived.Deep.DeepCutAuto
namespace Go.Proofs.Ytipnhpfpppblhaa
open Go.RowKit

theorem stC_set01 : ∀ (l : List St) (m : List (Value × Value)) (i : Nat) (x : St) (e : Value × Value) (v : Value) (S : Option (Nat → Bool)) (n : Nat), l[i]? = some x → m[i]? = some e →
    ((stC l m).set (i * 3) v).set (i * 3 + 1) (.int .i64 n) = stC (l.set i ⟨S, n, x.free⟩) (m.set i (v, e.2))
  | [], _, _, _, _, _, _, _, h, _ => by simp at h
  | _ :: _, [], _, _, _, _, _, _, _, h => by simp at h
  | y :: l, d :: m, 0, x, e, v, S, n, h, h' => by simp at h h'; subst h h'; rfl
  | y :: l, d :: m, i + 1, x, e, v, S, n, h, h' => by
    have := stC_set01 l m i x e v S n (by simpa using h) (by simpa using h')
    rw [show (i + 1) * 3 + 1 = (i * 3 + 1) + 3 by omega, show (i + 1) * 3 = (i * 3) + 3 by omega]
    simp [stC, this]
theorem blk_there {w : World} {k : Nat} {cs : Array Value} {t : TypeId} (h : w.heap[k]? = some (.cells cs t (0, 0))) : w.there k 0 cs.size := by
  intro j hj
  rw [Nat.zero_add]
  exact ⟨by simp [World.cell?, h, hj], by simp [World.frozen?, h]⟩
theorem part_there {w : World} {k : Nat} {x y : Value} {t : TypeId} (h : w.heap[k]? = some (.cells #[x, y] t (0, 0))) : w.there k 0 2 := blk_there h
end Go.Proofs.Ytipnhpfpppblhaa
