/- AlertApart: the card: whatever the arguments, the law returns true and its arguments read as they did. No condition. -/
import Derived.Test.YtipnhpfpppblhaaTopAlertApartCardP0
import Derived.Test.YtipnhpfpppblhaaShelf
import Derived.Test.YtipnhpfpppblhaaAppRd
import Derived.Maps.OwnOps
import Derived.Maps.Ext
import Derived.Sort.OwnSorted
import Derived.Test.YtipnhpfpppblhaaAlId
import Derived.Test.YtipnhpfpppblhaaRd
import Derived.Lib.SlicesCompact
import Derived.Test.YtipnhpfpppblhaaApPlain
import Derived.Deep.RegionHeldLaw
import Derived.Test.YtipnhpfpppblhaaApart
import Derived.Test.YtipnhpfpppblhaaAls
import Derived.Test.YtipnhpfpppblhaaBox2
import Derived.Test.YtipnhpfpppblhaaInfoInt
import Derived.Maps.AppendAt
import Derived.Lib.ConvBytes
import Derived.Test.YtipnhpfpppblhaaFields
import Derived.Shelf.SlicesQ.IndexFunc
import Derived.ProofKit
import Derived.OpenShut
import Derived.Deep.Slices
import Derived.Deep.Fields
import Derived.ChangeSame
import Derived.Laws.IdiomArrays
import Derived.SliceStrings
import Derived.Maps.OwnSet
import Derived.Deep.LoopGhost

/- pattern's builder beside boxes of the caller's: what is carried from call to call. -/
namespace Go.Proofs.Ytipnhpfpppblhaa
open Go.RowKit
end Go.Proofs.Ytipnhpfpppblhaa

/- pattern's builder: times: a contract. -/
namespace Go.Proofs.Ytipnhpfpppblhaa
open Go.RowKit
end Go.Proofs.Ytipnhpfpppblhaa

/- pattern's builder: atom: a contract, out of either's. -/
namespace Go.Proofs.Ytipnhpfpppblhaa
open Go.RowKit
end Go.Proofs.Ytipnhpfpppblhaa

/- pattern's builder: row, either: contracts; the three together. -/
namespace Go.Proofs.Ytipnhpfpppblhaa
open Go.RowKit
end Go.Proofs.Ytipnhpfpppblhaa

/- pattern.Read, pattern.Right: contracts. -/
namespace Go.Proofs.Ytipnhpfpppblhaa
open Go.RowKit
end Go.Proofs.Ytipnhpfpppblhaa

/- Going on without a byte, said plainly; the builder's states are well made. No program in sight. -/
namespace Go.Proofs.Ytipnhpfpppblhaa
def frees (sts : List St) (k : Nat) : List Nat := match sts[k]? with
  | some x => x.free
  | none => []
inductive FR (sts : List St) : Nat → Nat → Prop
  | refl (k : Nat) : FR sts k k
  | step {j k f : Nat} : FR sts j k → f ∈ frees sts k → FR sts j f
def Cl (sts : List St) (l : List Nat) (k : Nat) : Prop := ∃ j ∈ l, FR sts j k
def SWf (sts : List St) : Prop := ∀ x ∈ sts, (∀ f ∈ x.free, f < sts.length) ∧ x.next < sts.length
theorem frees_lt {sts : List St} (h : SWf sts) {k f : Nat} (hf : f ∈ frees sts k) : f < sts.length := by
  unfold frees at hf
  split at hf
  · rename_i x hx
    exact (h x (List.mem_of_getElem? hx)).1 f hf
  · cases hf
theorem frees_len (sts : List St) (k : Nat) : (frees sts k).length ≤ tot sts := by
  unfold frees
  split
  · rename_i x hx
    exact free_tot sts x (List.mem_of_getElem? hx)
  · simp
structure ReInv (sts : List St) (l out todo : List Nat) : Prop where
  nd : out.Nodup
  so : ∀ k ∈ out, Cl sts l k
  st : ∀ k ∈ todo, Cl sts l k
  c1 : ∀ j ∈ l, j ∈ out ∨ j ∈ todo
  c2 : ∀ k ∈ out, ∀ f ∈ frees sts k, f ∈ out ∨ f ∈ todo
  bo : ∀ k ∈ out, k < sts.length
  bt : ∀ k ∈ todo, k < sts.length
theorem ReInv.start (sts : List St) (l : List Nat) (hl : ∀ j ∈ l, j < sts.length) : ReInv sts l [] l :=
  ⟨List.nodup_nil, (fun _ h => by cases h), fun k h => ⟨k, h, .refl k⟩, fun _ h => .inr h, (fun _ h => by cases h), (fun _ h => by cases h), hl⟩
theorem ReInv.seen {sts : List St} {l out t : List Nat} {k : Nat} (h : ReInv sts l out (t ++ [k])) (hk : k ∈ out) : ReInv sts l out t := by
  have key : ∀ x, x ∈ t ++ [k] → x ∈ out ∨ x ∈ t := fun x hx => by
    rcases List.mem_append.1 hx with h1 | h1
    · exact .inr h1
    · rw [List.mem_singleton.1 h1]; exact .inl hk
  refine ⟨h.nd, h.so, fun x hx => h.st x (List.mem_append_left _ hx), fun j hj => ?_, fun x hx f hf => ?_, h.bo, fun x hx => h.bt x (List.mem_append_left _ hx)⟩
  · rcases h.c1 j hj with h1 | h1
    · exact .inl h1
    · exact key j h1
  · rcases h.c2 x hx f hf with h1 | h1
    · exact .inl h1
    · exact key f h1
theorem ReInv.new {sts : List St} {l out t : List Nat} {k : Nat} (hw : SWf sts) (h : ReInv sts l out (t ++ [k])) (hk : k ∉ out) : ReInv sts l (out ++ [k]) (t ++ frees sts k) := by
  have hkt : k ∈ t ++ [k] := List.mem_append_right _ (List.mem_singleton.2 rfl)
  have key : ∀ x, x ∈ t ++ [k] → x ∈ out ++ [k] ∨ x ∈ t ++ frees sts k := fun x hx => by
    rcases List.mem_append.1 hx with h1 | h1
    · exact .inr (List.mem_append_left _ h1)
    · exact .inl (List.mem_append_right _ h1)
  refine ⟨?_, ?_, ?_, ?_, ?_, ?_, ?_⟩
  · refine List.nodup_append.2 ⟨h.nd, by simp, fun a ha b hb => ?_⟩
    rw [List.mem_singleton.1 hb]
    exact fun e => hk (e ▸ ha)
  · intro x hx
    rcases List.mem_append.1 hx with h1 | h1
    · exact h.so x h1
    · rw [List.mem_singleton.1 h1]; exact h.st k hkt
  · intro x hx
    rcases List.mem_append.1 hx with h1 | h1
    · exact h.st x (List.mem_append_left _ h1)
    · obtain ⟨j, hj, hr⟩ := h.st k hkt
      exact ⟨j, hj, .step hr h1⟩
  · intro j hj
    rcases h.c1 j hj with h1 | h1
    · exact .inl (List.mem_append_left _ h1)
    · exact key j h1
  · intro x hx f hf
    rcases List.mem_append.1 hx with h1 | h1
    · rcases h.c2 x h1 f hf with h2 | h2
      · exact .inl (List.mem_append_left _ h2)
      · exact key f h2
    · rw [List.mem_singleton.1 h1] at hf
      exact .inr (List.mem_append_right _ hf)
  · intro x hx
    rcases List.mem_append.1 hx with h1 | h1
    · exact h.bo x h1
    · rw [List.mem_singleton.1 h1]; exact h.bt k hkt
  · intro x hx
    rcases List.mem_append.1 hx with h1 | h1
    · exact h.bt x (List.mem_append_left _ h1)
    · exact frees_lt hw h1
/-! the builder's states are well made -/
end Go.Proofs.Ytipnhpfpppblhaa

/- pattern's reach: a contract. -/
namespace Go.Proofs.Ytipnhpfpppblhaa
open Go.RowKit Go.Sort Go.Maps
/-! slices of ints: what a sort leaves -/
/-! a set of numbers, as a map of bools -/
def SeenAt (w : World) (b n : Nat) (S : Nat → Bool) : Prop := ∃ D : DataW Unit, w.ownsMap Try.prog 3 (plainElem Try.prog 4) b n D ∧ IsMap D ∧ ∀ k : Nat, D.atKey (.int .i64 k) (.lit (.bool false)) = .lit (.bool (S k))
theorem SeenAt.made (w : World) : SeenAt (w.alloc (.map #[] 0)) w.heap.size 0 (fun _ => false) := ⟨.map [], World.ownsMap_made _ _ _ _, isMap_empty, fun _ => rfl⟩
theorem SeenAt.lt {w : World} {b n : Nat} {S : Nat → Bool} (h : SeenAt w b n S) : b < w.heap.size := by
  obtain ⟨D, h, _⟩ := h
  exact h.lt
theorem SeenAt.kept {w w' : World} {b n : Nat} {S : Nat → Bool} {row : Option Nat} (h : SeenAt w b n S) (hg : w.grownBy w' row) (hne : some b ≠ row) : SeenAt w' b n S := by
  obtain ⟨D, h1, h2⟩ := h
  exact ⟨D, h1.kept hg hne, h2⟩
theorem SeenAt.put {w' : World} {b n : Nat} {D : DataW Unit} {S : Nat → Bool} (hD : IsMap D) (hS : ∀ k : Nat, D.atKey (.int .i64 k) (.lit (.bool false)) = .lit (.bool (S k))) (k : Nat) (h : w'.ownsMap Try.prog 3 (plainElem Try.prog 4) b n (D.put (.int .i64 (k : Int)) (.lit (.bool true)))) : SeenAt w' b n (fun j => S j || decide (j = k)) := by
  refine ⟨_, h, hD.put _ _, fun j => ?_⟩
  by_cases hj : j = k
  · subst hj
    rw [atKey_put_same hD (show WideAt.IsKeyLit (.int .i64 (j : Int)) from trivial)]; simp
  · rw [atKey_put_other (by simp; omega), hS j]; simp [hj]
theorem wpList_append_rd2 {P : Program} {w : World} {ops : Array Oper} {rest : List Oper} {o : Oper} {a : Act} {Q : Exit → Act → World → Prop} (hgd : o.guard = none) (s x : Operand) (t : TypeId)
    (ho : o.op = .call { callee := .builtin .append, args := #[s, x], argTypes := #[t, t] })
    (base : Nat) (e : TypeId) (i : TypeInfo) (z : Value) (size bytes : Nat) (ht : P.underlying t = some (.slice e)) (hi : P.info? e = some i) (hz : i.zero = some z)
    (hsize : i.size = size) (hby : i.bytes = bytes) (hzs : z.cells.size = size) (hsz : 0 < size)
    (v : Value) (n : Nat) (xs : List Value) (hs : a.eval s = v) (hown : w.ownsRow base e size v n xs)
    (u : Value) (m : Nat) (news : List Value) (hx : a.eval x = u) (hu : RdAt w u m size news) (h1 : ∀ y ∈ news, y.oneCell' = true)
    (h63 : n + m ≤ maxLen) (hbytes : (n + m) * bytes ≤ 140737488355328) (hbase : base ≤ w.heap.size)
    (h : ∀ v' w', w'.ownsRow base e size v' (n + m) (xs ++ news) → w.grownBy w' v.ownBlock → (v'.ownBlock = v.ownBlock ∨ v'.ownBlock = some w.heap.size) → wpList P ops Q rest (a.put o.dst v') w') : wpList P ops Q (o :: rest) a w := by
  refine wpList_plain hgd fun K hK => ?_
  obtain ⟨v', w', hr, h2, h3, h4⟩ := run_append_rd (P := P) w t o.type base e i z size bytes ht hi hz hsize hby hzs hsz v n xs hown u m news hu h1 h63 hbytes hbase
  unfold Oper.wp execOp
  simp only [ho, resolve, invoke, builtin, Sem.run_bind, Sem.run_pure, Result.andThen_ok, List.map_toArray, List.map_cons, List.map_nil, hs, hx, hr]
  exact hK _ _ (h v' w' h2 h3 h4)
structure ReAt (w : World) (m : Nat) (sts : List St) (l out todo : List Nat) (vo vt : Value) (wr : World) : Prop where
  ge : w.heap.size ≤ m
  below : Below w.heap.size w wr
  inv : ReInv sts l out todo
  seen : ∃ n, n ≤ out.length ∧ SeenAt wr m n (fun k => decide (k ∈ out))
  ro : wr.ownsRow w.heap.size 3 1 vo out.length (freeC out)
  rt : wr.ownsRow w.heap.size 3 1 vt todo.length (freeC todo)
  mo : vo.ownBlock ≠ some m
  mt : vt.ownBlock ≠ some m
  ot : vo.ownBlock = none ∨ vo.ownBlock ≠ vt.ownBlock
  len : todo.length ≤ l.length + out.length * tot sts
theorem freeC_snoc (l : List Nat) (k : Nat) : freeC (l ++ [k]) = freeC l ++ [.int .i64 k] := by simp [freeC]
theorem freeC_app (l r : List Nat) : freeC (l ++ r) = freeC l ++ freeC r := by simp [freeC]
theorem own_lt {w : World} {base : Nat} {e : TypeId} {size : Nat} {v : Value} {n : Nat} {xs : List Value} (h : w.ownsRow base e size v n xs) {k : Nat} (hk : v.ownBlock = some k) : k < w.heap.size := (h.lt k hk).2
theorem ReAt.more {w : World} {m : Nat} {sts : List St} {l out t : List Nat} {k gt tc go oc : Nat} {vo vt' : Value} {wr w1 w2 w3 : World} {o : Obj} (hw : SWf sts) (h : ReAt w m sts l out (t ++ [k]) vo (.slice (some ⟨gt, 0, none⟩) (t.length + 1) tc) wr) (hk : k ∉ out)
    (n : Nat) (hn : n ≤ out.length) (hs1 : SeenAt w1 m (n + 1) (fun j => decide (j ∈ out) || decide (j = k))) (hg1 : wr.grownBy w1 (some m))
    (ho2 : w2.ownsRow w.heap.size 3 1 (.slice (some ⟨go, 0, none⟩) (out.length + 1) oc) (out.length + 1) (freeC out ++ [.int .i64 k])) (hg2 : (w1.alloc o).grownBy w2 vo.ownBlock) (ha2 : vo.ownBlock = some go ∨ go = w1.heap.size + 1)
    (hr3 : w3.ownsRow w.heap.size 3 1 vt' (t.length + (frees sts k).length) (freeC t ++ freeC (frees sts k))) (hg3 : w2.grownBy w3 (some gt)) (ha3 : vt'.ownBlock = some gt ∨ vt'.ownBlock = some w2.heap.size) :
    ReAt w m sts l (out ++ [k]) (t ++ frees sts k) (.slice (some ⟨go, 0, none⟩) (out.length + 1) oc) vt' w3 := by
  have hgm := (own_lt h.rt rfl : gt < wr.heap.size)
  obtain ⟨n0, _, hs0⟩ := h.seen
  have hml := hs0.lt
  have hg1s := hg1.size
  have hg2s : w1.heap.size + 1 ≤ w2.heap.size := by have := hg2.size; rw [World.size_alloc] at this; exact this
  have hgom : go ≠ m := by
    rcases ha2 with e | e
    · exact fun e' => h.mo (e' ▸ e)
    · omega
  have hgt : gt ≠ m := fun e => h.mt (by rw [← e]; rfl)
  have hgog : go ≠ gt := by
    rcases ha2 with e | e
    · rcases h.ot with h1 | h1
      · rw [h1] at e; cases e
      · exact fun e' => h1 (by rw [e, e']; rfl)
    · omega
  have hvom : vo.ownBlock ≠ some m := h.mo
  have hbase : ∀ j, (Value.slice (some ⟨gt, 0, none⟩) (t.length + 1) tc).ownBlock = some j → w.heap.size ≤ j := fun j e => (h.rt.lt j e).1
  have b1 : Below w.heap.size w w1 := h.below.grown hg1 h.below.size (fun j e => by cases e; exact h.ge)
  have b1' : Below w.heap.size w (w1.alloc o) := b1.alloc b1.size o
  have b2 : Below w.heap.size w w2 := b1'.grown hg2 b1'.size (fun j e => (h.ro.lt j e).1)
  have b3 : Below w.heap.size w w3 := b2.grown hg3 b2.size (fun j e => by cases e; exact hbase gt rfl)
  refine ⟨h.ge, b3, h.inv.new hw hk, ⟨n + 1, by simp; omega, ?_⟩, ?_, ?_, ?_, ?_, ?_, ?_⟩
  · have hs2 : SeenAt w2 m (n + 1) (fun j => decide (j ∈ out) || decide (j = k)) := SeenAt.kept (row := vo.ownBlock) (SeenAt.kept (row := none) hs1 (World.grownBy_alloc w1 o none) (by simp)) hg2 (fun e => hvom e.symm)
    have hs3 := SeenAt.kept (row := some gt) hs2 hg3 (fun e => hgt (Option.some.inj e).symm)
    have hf : (fun j => decide (j ∈ out ++ [k])) = (fun j => decide (j ∈ out) || decide (j = k)) := by
      funext j
      rw [Bool.eq_iff_iff]
      simp
    rw [hf]
    exact hs3
  · rw [List.length_append, freeC_snoc]
    exact ho2.kept hg3 (.inr (fun e => hgog (Option.some.inj e)))
  · rw [List.length_append, freeC_app]
    exact hr3
  · exact fun e => hgom (Option.some.inj e)
  · rcases ha3 with e | e
    · rw [e]; exact fun e' => hgt (Option.some.inj e')
    · rw [e]; exact fun e' => by have := Option.some.inj e'; omega
  · refine .inr (fun e => ?_)
    rcases ha3 with e' | e'
    · rw [e'] at e; exact hgog (Option.some.inj e)
    · rw [e'] at e
      have h5 : go = w2.heap.size := Option.some.inj e
      have h4 := own_lt ho2 (k := go) rfl
      omega
  · have h1 := h.len
    have h2 := frees_len sts k
    simp only [List.length_append, List.length_cons, List.length_nil] at h1 ⊢
    rw [Nat.add_mul]
    omega
end Go.Proofs.Ytipnhpfpppblhaa

/- lychgateref02.Of: a contract: it is what digest.Of hands back. -/
namespace Go.Proofs.Ytipnhpfpppblhaa
open Go.RowKit
theorem padN_is (n : Nat) : (n + 1 + padN (n % 64)) % 64 = 56 ∧ ∀ m, m < padN (n % 64) → (n + 1 + m) % 64 ≠ 56 := by
  have h := Nat.mod_lt n (show 0 < 64 by decide)
  unfold padN
  split
  · exact ⟨by omega, fun m hm => by omega⟩
  · exact ⟨by omega, fun m hm => by omega⟩
theorem padN_lt (n : Nat) : padN (n % 64) < 64 := by
  have h := Nat.mod_lt n (show 0 < 64 by decide)
  unfold padN
  split <;> omega
theorem addL_word (V U : List Int) : ∀ x ∈ addL V U, W32 x := by
  intro x hx
  obtain ⟨i, _, rfl⟩ := List.mem_map.1 (show x ∈ (List.range 8).map _ from hx)
  exact w32_mod _
theorem blocks_word (B : List Int) : ∀ k, ∀ x ∈ blocksL startL B k, W32 x
  | 0 => by intro x hx; exact (show ∀ x ∈ startL, 0 ≤ x ∧ x < 4294967296 by decide) x hx
  | k + 1 => by intro x hx; exact addL_word _ _ x hx
def lenS : Value → Nat
  | .slice _ n _ => n
  | _ => 0
theorem by_append (a b : List Int) : (a ++ b).map V8 = a.map V8 ++ b.map V8 := List.map_append
theorem exec_loadR {o : Oper} {a : Act} {w : World} (ty : TypeId) (x : Operand) (ho : o.op = .load ty x) (b : Nat) (hx : a.eval x = .pointer (some ⟨b, 0, none⟩)) (cs : Array Value) (t : TypeId) (d : TypeDesc)
    (hc : w.heap[b]? = some (.cells cs t (0, 0))) (hu : Try.prog.underlying ty = some d) (hd : d.isRow = true) (hi : (Try.prog.info? ty).map (·.size) = some cs.size) : (execOp a.eval o).run Try.prog w = .ok (.value (.agg cs)) w := by
  have hr : w.rangeAt b 0 cs.toList := fun j v hv => by
    rw [Nat.zero_add, cell_row hc]
    simpa using hv
  unfold execOp
  simp only [ho, hx]
  rw [Sem.run_bind, run_loadAt_mid w b 0 ty cs.toList d hr hu hd (by simpa using hi)]
  simp
structure OfSt (w wr : World) (H base : Nat) (vm : Value) (B V : List Int) : Prop where
  h : VR wr H V 121
  k : wr.heap[H + 1]? = some (.cells keysV 123 (0, 0))
  r : wr.heap[w.heap.size]? = some (.cells (Array.replicate 32 (.int .u8 0)) 106 (0, 0))
  o : wr.ownsRow base 5 1 vm B.length (B.map V8)
  b : Below w.heap.size w wr
theorem OfSt.later {w wr W : World} {H base : Nat} {vm : Value} {B V : List Int} (h : OfSt w wr H base vm B V) (hb : Below wr.heap.size wr W) : OfSt w W H base vm B V :=
  ⟨h.h.later hb, by rw [hb.block _ (Array.getElem?_eq_some_iff.1 h.k).1]; exact h.k, by rw [hb.block _ (Array.getElem?_eq_some_iff.1 h.r).1]; exact h.r, own_later h.o hb, h.b.trans (hb.mono h.b.size)⟩
theorem OfSt.put {w wr : World} {H base : Nat} {vm : Value} {B V : List Int} (h : OfSt w wr H base vm B V) (hw : w.heap.size < H) (hH : H < base) (j : Nat) (x : Int) : OfSt w (wr.setCell ⟨H, j, none⟩ (V32 x)) H base vm B (V.set j x) :=
  ⟨h.h.put j x, by rw [heap_else _ _ _ _ _ (by omega)]; exact h.k, by rw [heap_else _ _ _ _ _ (by omega)]; exact h.r, h.o.kept (grown_setCell wr H j _) (by
    cases e : vm.ownBlock with
    | none => exact .inl rfl
    | some g => right; intro e2; have := (h.o.lt g e).1; cases e2; omega), h.b.trans (below_setCell wr _ _ _ (by omega))⟩
theorem whole_byte {bs : List Int} (hB : ByteL bs) : ByteL (wholeL bs) := by
  have := pad_bytes hB (padN (bs.length % 64)) (IntKind.u64.wrap (IntKind.u64.wrap bs.length * 8))
  rw [List.append_nil] at this
  exact this
theorem OfSt.block {w wr : World} {H base g c : Nat} {B V : List Int} (h : OfSt w wr H base (.slice (some ⟨g, 0, none⟩) B.length c) B V) (hB : ByteL B) (z : Nat) (hz : z + 64 ≤ B.length) : Bytes8 wr ⟨g, z, none⟩ ((B.drop z).take 64) := by
  have hl : ((B.drop z).take 64).length = 64 := by rw [List.length_take, List.length_drop]; omega
  refine ⟨g, z, rfl, (h.o.lt g rfl).2, fun j hj => ?_⟩
  have hjz : z + j < B.length := by omega
  have e : ((B.drop z).take 64)[j] = B[z + j] := by rw [List.getElem_take, List.getElem_drop]
  have hc := h.o.cells (g := g) rfl (z + j) (V8 B[z + j]) (by rw [List.getElem?_map, List.getElem?_eq_getElem hjz]; rfl)
  rw [Addr.add_mid, Nat.zero_add] at hc
  rw [e]
  exact ⟨hc, hB _ (List.getElem_mem hjz)⟩
set_option maxHeartbeats 60000000 in
set_option maxRecDepth 100000 in
theorem rof2_any (bs : List Int) (v : Value) (w : World) (hb : ByAt w v bs) (hB : ByteL bs) (hl : bs.length ≤ 1000000000000) :
    Calls Try.prog 56 #[v] w fun e w' => e = .returned (.agg ((ofL bs).map V8).toArray) ∧ Below w.heap.size w w' := by
  obtain ⟨i0, hi, hz0, hz1, hz2⟩ := info_parts info_u8
  obtain ⟨va, vc, rfl, hvc, _⟩ := RdAt.shape hb
  have hb0 := alloc_below w (.cells (Array.replicate 32 (.int .u8 0)) 106)
  have hz := World.size_alloc w (.cells (Array.replicate 32 (.int .u8 0)) 106)
  have hR0 : (w.alloc (.cells (Array.replicate 32 (.int .u8 0)) 106)).heap[w.heap.size]? = some (.cells (Array.replicate 32 (.int .u8 0)) 106 (0, 0)) := heap_alloc_new _ _
  have hv0 := hb.later hb0
  clear hb
  go_enter Try.func56, Try.ntmps56
  go_upto_region 1 with fail
  change Code.wp _ _ _ _ (w.alloc (.cells (Array.replicate 32 (.int .u8 0)) 106))
  generalize w.alloc (.cells (Array.replicate 32 (.int .u8 0)) 106) = w0 at *
  have hlt0 : w.heap.size < w0.heap.size := by omega
  clear hz
  have k1 := rstart_any w0
  go_wp2_with fail
  refine k1.mono ?_
  rintro e w1 ⟨rfl, hb1⟩
  have k2 := rkeys_any w1
  go_wp2_with fail
  refine k2.mono ?_
  rintro e w2 ⟨rfl, hb2⟩
  have hb12 := hb1.trans (hb2.mono hb1.size)
  have HV2 := Lib.hid (hv0.later hb12)
  have HR2 : Hid (w2.heap[w.heap.size]? = some (.cells (Array.replicate 32 (.int .u8 0)) 106 (0, 0))) := Lib.hid (by rw [hb12.block _ hlt0]; exact hR0)
  have HB2 := Lib.hid (hb0.trans (hb12.mono hb0.size))
  have hlt2 : w.heap.size < w2.heap.size := Nat.lt_of_lt_of_le hlt0 hb12.size
  clear k1 k2 hb1 hb2 hb12 hv0 hR0 hb0 hlt0
  obtain ⟨WA, hWA⟩ : ∃ z, (w2.alloc (.cells (Array.replicate 8 (V32 0)) 121)).alloc (.cells (Array.replicate 64 (V32 0)) 123) = z := ⟨_, rfl⟩
  have hgA : WA.heap[w2.heap.size]? = some (.cells (Array.replicate 8 (V32 0)) 121 (0, 0)) := by
    rw [← hWA]
    have hba := alloc_below (w2.alloc (.cells (Array.replicate 8 (V32 0)) 121)) (.cells (Array.replicate 64 (V32 0)) 123)
    rw [hba.block _ (by rw [World.size_alloc]; omega), heap_alloc_new]
  have hgB : WA.heap[w2.heap.size + 1]? = some (.cells (Array.replicate 64 (V32 0)) 123 (0, 0)) := by
    rw [← hWA]
    have := heap_alloc_new (w2.alloc (.cells (Array.replicate 8 (V32 0)) 121)) (.cells (Array.replicate 64 (V32 0)) 123)
    rwa [World.size_alloc] at this
  have hbA : Below w2.heap.size w2 WA := by rw [← hWA]; exact ((Below.refl _ _).alloc (Nat.le_refl _) _).alloc (by simp) _
  have hsA : WA.heap.size = w2.heap.size + 1 + 1 := by rw [← hWA, World.size_alloc, World.size_alloc]
  have hgB2 : (WA.setRow w2.heap.size startV).heap[w2.heap.size + 1]? = some (.cells (Array.replicate 64 (V32 0)) 123 (0, 0)) := by rw [setRow_other _ _ _ _ (by omega)]; exact hgB
  go_upto_region 2 with (first | (refine wpList_store_row rfl 121 (.tmp 3) (.tmp 15) rfl w2.heap.size startV rfl rfl 121 _ (by rw [← hWA] at hgA; exact hgA) (by kernel_rfl) (by rfl) (by kernel_rfl) ?_) | (refine wpList_store_row rfl 123 (.tmp 4) (.tmp 16) rfl (w2.heap.size + 1) keysV rfl rfl 123 _ (by rw [← hWA] at hgB2; exact hgB2) (by kernel_rfl) (by rfl) (by kernel_rfl) ?_))
  have hw3 : VR ((WA.setRow w2.heap.size startV).setRow (w2.heap.size + 1) keysV) w2.heap.size startL 121 := by
    unfold VR; rw [setRow_other _ _ _ _ (by omega)]; exact setRow_heap _ _ _ _ _ _ hgA
  have hk3 := setRow_heap _ _ _ keysV _ _ hgB2
  have hs3 : ((WA.setRow w2.heap.size startV).setRow (w2.heap.size + 1) keysV).heap.size = w2.heap.size + 1 + 1 := by rw [setRow_size, setRow_size, hsA]
  have hb3 : Below w2.heap.size w2 ((WA.setRow w2.heap.size startV).setRow (w2.heap.size + 1) keysV) := below_setRow (below_setRow hbA (Nat.le_refl _) _) (by omega) _
  subst hWA
  change Code.wp _ _ _ _ ((((w2.alloc (.cells (Array.replicate 8 (V32 0)) 121)).alloc (.cells (Array.replicate 64 (V32 0)) 123)).setRow w2.heap.size startV).setRow (w2.heap.size + 1) keysV)
  generalize (((w2.alloc (.cells (Array.replicate 8 (V32 0)) 121)).alloc (.cells (Array.replicate 64 (V32 0)) 123)).setRow w2.heap.size startV).setRow (w2.heap.size + 1) keysV = w3 at *
  have HV3 := Lib.hid (HV2.out.later hb3)
  have HR3 : Hid (w3.heap[w.heap.size]? = some (.cells (Array.replicate 32 (.int .u8 0)) 106 (0, 0))) := Lib.hid (by rw [hb3.block _ hlt2]; exact HR2.out)
  have HB3 := Lib.hid (HB2.out.trans (hb3.mono HB2.out.size))
  have HH3 := Lib.hid hw3
  have HK3 := Lib.hid hk3
  obtain ⟨H, hH⟩ : ∃ H, w2.heap.size = H := ⟨_, rfl⟩
  rw [hH] at HH3 HK3 hs3 hlt2
  try rw [hH]
  clear hgA hgB hgB2 hbA hsA hw3 hk3 hb3 HV2 HR2 HB2 hH w2
  have hn0 : 0 + bs.length ≤ maxLen := by unfold maxLen; omega
  have hn1 : (0 + bs.length) * 1 ≤ 140737488355328 := by omega
  have hn2 : 0 + bs.length + 1 ≤ maxLen := by unfold maxLen; omega
  have hn3 : (0 + bs.length + 1) * 1 ≤ 140737488355328 := by omega
  have h128 : ∀ y ∈ [V8 128], y.oneCell' = true := by simp [Value.oneCell']
  go_upto_region 3 with (first
    | (at_builtin; (refine wpList_append_rd2 rfl (.const (.slice none 0 0)) (.tmp 17) 103 rfl w3.heap.size 5 i0 (.int .u8 0) 1 1 Try.underlying103 hi hz0 hz1 hz2 rfl (by decide) _ 0 [] rfl (World.ownsRow_nil _ _ _ _) _ bs.length _ rfl HV3.out (v8_cells _) hn0 hn1 (Nat.le_refl _) ?_); intro m1 u1 hown1 hgrow1 _; have ho1 := hown1.alloc (.cells #[V8 128] 5); have hbb1 := ((Below.refl w3.heap.size w3).grown hgrow1 (Nat.le_refl _) (fun j hj => by cases hj)).alloc (by have := hgrow1.size; exact this) (.cells #[V8 128] 5))
    | (at_builtin; (refine wpList_append_rd2 rfl (.tmp 18) (.tmp 19) 103 rfl w3.heap.size 5 i0 (.int .u8 0) 1 1 Try.underlying103 hi hz0 hz1 hz2 rfl (by decide) _ _ _ rfl ho1 _ 1 _ rfl (rd_one8 u1 (V8 128) 5) h128 hn2 hn3 hbb1.size ?_); intro m2 u2 hown2 hgrow2 _))
  have hb2 := hbb1.grown hgrow2 hbb1.size (fun k hk => (ho1.lt k hk).1)
  have HO2 : Hid (u2.ownsRow w3.heap.size 5 1 m2 (bs.length + 1 + 0) ((bs ++ [128] ++ List.replicate 0 0).map V8)) := Lib.hid (by
    have := hown2
    rw [List.nil_append] at this
    simpa [by_append, Nat.zero_add] using this)
  clear hown1 hgrow1 ho1 hbb1 hown2 hgrow2 hn0 hn1 hn2 hn3 h128
  have hpd := padN_is bs.length
  have hpl := padN_lt bs.length
  obtain ⟨M, hM⟩ : ∃ M, padN (bs.length % 64) = M := ⟨_, rfl⟩
  have HM := Lib.hid hM
  rw [hM] at hpd hpl
  have HPD := Lib.hid hpd
  clear hpd hM
  go_loopw [5] (fun vm wr => ∃ m : Nat, m ≤ M ∧ Hid (wr.ownsRow w3.heap.size 5 1 vm (bs.length + 1 + m) ((bs ++ [128] ++ List.replicate m 0).map V8)) ∧ Below w3.heap.size w3 wr) (fun vm _ => bs.length + 1 + M - lenS vm)
  case atStart => exact ⟨0, Nat.zero_le _, HO2, hb2⟩
  case round =>
    clear HO2 hb2
    obtain ⟨m, hm, HO, hbr⟩ := hrel
    obtain ⟨a2, c2, rfl, hc2, -⟩ := RdAt.shape (RdAt.own HO.out)
    obtain ⟨n, hn⟩ : ∃ n, bs.length + 1 + m = n := ⟨_, rfl⟩
    have hn62 : n ≤ 1000000000100 := by omega
    by_cases hmM : m < M
    · have hne := HPD.out.2 m hmM
      rw [hn] at hne HO hc2 ⊢
      have hnb : ((n : Int) % 64 != 56) = true := by rw [bne_iff_ne]; omega
      have hrd := rd_one8 wr (V8 0) 5
      have hoa := HO.out.alloc (.cells #[V8 0] 5)
      have hba := hbr.alloc hbr.size (.cells #[V8 0] 5)
      have hx0 : ∀ y ∈ [V8 0], y.oneCell' = true := by simp [Value.oneCell']
      have hx1 : n + 1 ≤ maxLen := by unfold maxLen; omega
      have hx2 : (n + 1) * 1 ≤ 140737488355328 := by omega
      go_wp2_with (at_builtin; (refine wpList_append_rd2 rfl (.tmp 25) (.tmp 26) 103 rfl w3.heap.size 5 i0 (.int .u8 0) 1 1 Try.underlying103 hi hz0 hz1 hz2 rfl (by decide) _ _ _ rfl hoa _ 1 _ rfl hrd hx0 hx1 hx2 hba.size ?_); intro v3 w4 hown3 hgrow3 _)
      have hb4 := hba.grown hgrow3 hba.size (fun k hk => (hoa.lt k hk).1)
      have HO4 := Lib.hid hown3
      obtain ⟨a3, c3, rfl, -, -⟩ := RdAt.shape (RdAt.own hown3)
      clear hown3 hgrow3 hoa hba hrd hx0 hx1 hx2 HO
      go_roundw
      case rel =>
        refine ⟨m + 1, by omega, Lib.hid ?_, hb4⟩
        have := HO4.out
        rw [show bs.length + 1 + (m + 1) = n + 1 by omega, List.replicate_succ', ← List.append_assoc, List.map_append]
        exact this
      case measure => (show _ - (n + 1) < _ - n; omega)
    · obtain rfl : m = M := by omega
      have hnb : ((n : Int) % 64 != 56) = false := by rw [bne_eq_false_iff_eq]; have := HPD.out.1; omega
      rw [hn] at HO hc2 ⊢
      obtain ⟨L, hL⟩ : ∃ L, bs ++ [128] ++ List.replicate m 0 = L := ⟨_, rfl⟩
      have HL := Lib.hid hL
      rw [hL] at HO
      have HLL : Hid (L.length = n) := Lib.hid (by rw [← hL]; simp; omega)
      clear hL
      go_upto_region 7 with fail
      obtain ⟨NN, hNN⟩ : ∃ NN : Nat, bs.length * 8 = NN := ⟨_, rfl⟩
      have hNc : (bs.length : Int) * 8 = (NN : Int) := by omega
      rw [hNc]
      have HNN := Lib.hid hNN
      clear hNN hNc
      have hb0' : Hid (wr.ownsRow w3.heap.size 5 1 (.slice a2 n c2) (n + 0) ((L ++ lenL (NN : Int) 0).map V8)) := Lib.hid (by simpa [lenL] using HO.out)
      go_loopw [7, 5] (fun vi vm wr => ∃ k : Nat, k ≤ 8 ∧ vi = .int .i64 (7 - (k : Int)) ∧ Hid (wr.ownsRow w3.heap.size 5 1 vm (n + k) ((L ++ lenL (NN : Int) k).map V8)) ∧ Below w3.heap.size w3 wr) (fun vi _ _ => (intOf vi + 1).toNat)
      case atStart => exact ⟨0, Nat.zero_le _, rfl, hb0', hbr⟩
      case round =>
        clear hb0' HO hbr
        obtain ⟨k, hk, rfl, HO, hbr⟩ := hrel
        obtain ⟨a4, c4, rfl, hc4, -⟩ := RdAt.shape (RdAt.own HO.out)
        by_cases hk8 : k < 8
        · obtain ⟨q, hq⟩ : ∃ q : Nat, q + k = 7 := ⟨7 - k, by omega⟩
          have hqi : 7 - (k : Int) = (q : Int) := by omega
          rw [hqi]
          have hq0 : (0 : Int) ≤ (q : Int) := by omega
          go_upto_region 11 with fail
          have HO0 := HO
          go_loopw [9, 8] (fun vj vn wr => ∃ j : Nat, j ≤ q ∧ vj = .int .i64 j ∧ vn = .int .u64 ((NN / 256 ^ j : Nat) : Int) ∧ Hid (wr.ownsRow w3.heap.size 5 1 (.slice a4 (n + k) c4) (n + k) ((L ++ lenL (NN : Int) k).map V8)) ∧ Below w3.heap.size w3 wr) (fun vj _ _ => q - (intOf vj).toNat)
          case atStart => exact ⟨0, Nat.zero_le _, rfl, by rw [Nat.pow_zero, Nat.div_one], HO0, hbr⟩
          case round =>
            clear HO HO0 hbr
            obtain ⟨j, hj, rfl, rfl, HO, hbr⟩ := hrel
            have HND : Hid (NN / 256 ^ (j + 1) = NN / 256 ^ j / 256) := Lib.hid (by rw [Nat.pow_succ, Nat.div_div_eq_div_mul])
            have hyb : NN / 256 ^ j ≤ NN := Nat.div_le_self _ _
            have hNb : NN ≤ 8000000000000 := by have := HNN.out; omega
            obtain ⟨y, hy⟩ : ∃ y, NN / 256 ^ j = y := ⟨_, rfl⟩
            rw [hy] at HND hyb ⊢
            have hy0 : (0 : Int) ≤ (y : Int) := by omega
            have hy1 : (y : Int) ≤ 8000000000000 := by omega
            by_cases hjq : j < q
            · clear hy
              go_wp2
              go_roundw
              case rel => exact ⟨j + 1, by omega, by go_num, by rw [HND.out]; rfl, HO, hbr⟩
              case measure => (simp [intOf]; try omega)
            · obtain rfl : j = q := by omega
              have HBT : Hid ((y : Int) % 256 = (NN : Int) / 2 ^ (56 - 8 * k) % 256) := Lib.hid (by
                rw [← hy, show 56 - 8 * k = 8 * j by omega, Int.natCast_ediv, Int.natCast_pow, Int.pow_mul]; rfl)
              obtain ⟨x, hx⟩ : ∃ x, (y : Int) % 256 = x := ⟨_, rfl⟩
              have hx0 : 0 ≤ x := by omega
              have hx1 : x < 256 := by omega
              have HBX : Hid (x = (NN : Int) / 2 ^ (56 - 8 * k) % 256) := Lib.hid (by rw [← hx]; exact HBT.out)
              have hrd := rd_one8 wr (V8 x) 5
              have hoa := HO.out.alloc (.cells #[V8 x] 5)
              have hba := hbr.alloc hbr.size (.cells #[V8 x] 5)
              have hz0' : ∀ y ∈ [V8 x], y.oneCell' = true := by simp [Value.oneCell']
              have hz1' : n + k + 1 ≤ maxLen := by unfold maxLen; omega
              have hz2' : (n + k + 1) * 1 ≤ 140737488355328 := by omega
              have hwx : IntKind.u8.wrap x = x := by rw [IntKind.wrap_u8']; omega
              clear hy HND HBT
              go_wp2_with (at_builtin; (refine wpList_append_rd2 rfl (.tmp 44) (.tmp 48) 103 rfl w3.heap.size 5 i0 (.int .u8 0) 1 1 Try.underlying103 hi hz0 hz1 hz2 rfl (by decide) _ _ _ rfl hoa _ 1 _ rfl hrd hz0' hz1' hz2' hba.size ?_); intro v3 w4 hown3 hgrow3 _)
              have hb4 := hba.grown hgrow3 hba.size (fun k hk => (hoa.lt k hk).1)
              have HO4 : Hid (w4.ownsRow w3.heap.size 5 1 v3 (n + (k + 1)) ((L ++ lenL (NN : Int) (k + 1)).map V8)) := Lib.hid (by
                have := hown3
                rw [lenL_succ, ← HBX.out, ← List.append_assoc, List.map_append]
                exact this)
              clear hown3 hgrow3 hoa hba hrd hz0' hz1' hz2' HO
              go_roundw
              case rel => exact ⟨k + 1, by omega, by first | (congr 1; omega) | go_num, HO4, hb4⟩
              case measure => (simp [intOf]; try omega)
        · obtain rfl : k = 8 := by omega
          rw [show (7 : Int) - ((8 : Nat) : Int) = -1 from rfl]
          have hWL : L ++ lenL (NN : Int) 8 = wholeL bs := by
            unfold wholeL
            rw [← HL.out, HM.out]
            congr 2
            have := HNN.out
            rw [IntWalk.u64_in (bs.length : Int) ⟨by omega, by omega⟩, IntWalk.u64_in ((bs.length : Int) * 8) ⟨by omega, by omega⟩]
            omega
          obtain ⟨B, hBd⟩ : ∃ B, wholeL bs = B := ⟨_, rfl⟩
          have hBl : B.length = n + 8 := by rw [← hBd, ← hWL, List.length_append, HLL.out, lenL_len]
          have hB64 : 64 ∣ B.length := by rw [← hBd]; exact wholeL_len bs
          have HBB : Hid (ByteL B) := Lib.hid (by rw [← hBd]; exact whole_byte hB)
          rw [hWL, hBd, ← hBl] at HO
          rw [← hBl]
          have HBD := Lib.hid hBd
          obtain ⟨T, hT⟩ : ∃ T, B.length = 64 * T := ⟨B.length / 64, by omega⟩
          have HTT := Lib.hid hT
          have hBn : B.length ≤ 1000000000200 := by omega
          have hB0 : 0 < B.length := by omega
          have hlH : H + 1 < w3.heap.size := by omega
          have HST : Hid (OfSt w wr H w3.heap.size (.slice a4 B.length c4) B (blocksL startL B 0)) := Lib.hid ⟨(by unfold VR; rw [hbr.block _ (by omega)]; exact HH3.out), by rw [hbr.block _ hlH]; exact HK3.out, by rw [hbr.block _ (by omega)]; exact HR3.out, HO.out, HB3.out.trans (hbr.mono HB3.out.size)⟩
          have hshp : ∃ g, a4 = some ⟨g, 0, none⟩ ∧ B.length ≤ c4 := by
            rcases HO.out.2 with ⟨h1, h2⟩ | ⟨g, c, cur, h1, _, _, h3, _⟩
            · omega
            · simp only [Value.slice.injEq] at h1
              exact ⟨g, h1.1, by rw [h1.2.2]; exact h3⟩
          obtain ⟨g, rfl, hgc⟩ := hshp
          clear hWL hBd hB64 hbr HO HH3 HK3 HR3 HB3 HV3 HL HLL HNN hs3
          generalize w3.heap.size = Z at *
          clear hT hBl
          have hHZ : H < Z := by omega
          go_upto_region 16 with fail
          go_loopw [10] (fun va wr => ∃ t : Nat, t ≤ T ∧ va = .int .i64 ((64 * t : Nat) : Int) ∧ Hid (OfSt w wr H Z (.slice (some ⟨g, 0, none⟩) B.length c4) B (blocksL startL B t))) (fun va _ => B.length - (intOf va).toNat)
          case atStart => exact ⟨0, Nat.zero_le _, rfl, HST⟩
          case round =>
            clear HST
            obtain ⟨t, ht, rfl, HS⟩ := hrel
            by_cases htT : t < T
            · obtain ⟨z, hz⟩ : ∃ z, 64 * t = z := ⟨_, rfl⟩
              have hzB : z + 64 ≤ B.length := by have := HTT.out; omega
              obtain ⟨V, hV⟩ : ∃ V, blocksL startL B t = V := ⟨_, rfl⟩
              have hVl : V.length = 8 := by rw [← hV]; exact blocksL_len rfl t
              have HVW : Hid (∀ x ∈ V, W32 x) := Lib.hid (by rw [← hV]; exact blocks_word B t)
              have HN : Hid (blocksL startL B (t + 1) = blockL ((B.drop z).take 64) V) := Lib.hid (by rw [blocksL, hV, hz])
              rw [hV] at HS
              obtain ⟨v0, v1, v2, v3, v4, v5, v6, v7, rfl⟩ : ∃ x0 x1 x2 x3 x4 x5 x6 x7, V = [x0, x1, x2, x3, x4, x5, x6, x7] := by
                match V, hVl with
                | [x0, x1, x2, x3, x4, x5, x6, x7], _ => exact ⟨x0, x1, x2, x3, x4, x5, x6, x7, rfl⟩
              have hd64 : ((B.drop z).take 64).length = 64 := by rw [List.length_take, List.length_drop]; omega
              have KR : Hid (∀ W, Below wr.heap.size wr W → Calls Try.prog 73 #[.agg #[V32 v0, V32 v1, V32 v2, V32 v3, V32 v4, V32 v5, V32 v6, V32 v7], .agg keysV, .slice (some ⟨g, z, none⟩) 64 (c4 - z)] W fun e w' => ∃ y0 y1 y2 y3 y4 y5 y6 y7, e = .returned (.agg #[V32 y0, V32 y1, V32 y2, V32 y3, V32 y4, V32 y5, V32 y6, V32 y7]) ∧ blockL ((B.drop z).take 64) [v0, v1, v2, v3, v4, v5, v6, v7] = [y0, y1, y2, y3, y4, y5, y6, y7] ∧ Below W.heap.size W w') := Lib.hid (fun W hW => by
                refine (rround_any ((B.drop z).take 64) v0 v1 v2 v3 v4 v5 v6 v7 ⟨g, z, none⟩ (c4 - z) W hd64 ((HS.out.later hW).block HBB.out z hzB) HVW.out).mono ?_
                rintro e w' ⟨rfl, hb⟩
                have hl : (blockL ((B.drop z).take 64) [v0, v1, v2, v3, v4, v5, v6, v7]).length = 8 := by unfold blockL addL; simp
                generalize blockL ((B.drop z).take 64) [v0, v1, v2, v3, v4, v5, v6, v7] = Y at *
                match Y, hl with
                | [y0, y1, y2, y3, y4, y5, y6, y7], _ => exact ⟨y0, y1, y2, y3, y4, y5, y6, y7, rfl, rfl, hb⟩)
              have SK : Hid (∀ W', Below wr.heap.size wr W' → (W'.cell? ⟨H, 0, none⟩ = some (V32 v0) ∧ W'.cell? ⟨H, 1, none⟩ = some (V32 v1) ∧ W'.cell? ⟨H, 2, none⟩ = some (V32 v2) ∧ W'.cell? ⟨H, 3, none⟩ = some (V32 v3) ∧ W'.cell? ⟨H, 4, none⟩ = some (V32 v4) ∧ W'.cell? ⟨H, 5, none⟩ = some (V32 v5) ∧ W'.cell? ⟨H, 6, none⟩ = some (V32 v6) ∧ W'.cell? ⟨H, 7, none⟩ = some (V32 v7)) ∧ W'.heap[H + 1]? = some (.cells keysV 123 (0, 0))) := Lib.hid (fun W' h =>
                ⟨⟨(HS.out.later h).h.cell (j := 0) rfl, (HS.out.later h).h.cell (j := 1) rfl, (HS.out.later h).h.cell (j := 2) rfl, (HS.out.later h).h.cell (j := 3) rfl, (HS.out.later h).h.cell (j := 4) rfl, (HS.out.later h).h.cell (j := 5) rfl, (HS.out.later h).h.cell (j := 6) rfl, (HS.out.later h).h.cell (j := 7) rfl⟩, (HS.out.later h).k⟩)
              have hz0 : (0 : Int) ≤ (z : Int) := by omega
              have hz1 : (z : Int) + 64 ≤ (B.length : Int) := by omega
              have hz2 : (z : Int) < (B.length : Int) := by omega
              have hz3 : (z : Int) + 64 ≤ (c4 : Int) := by omega
              have hw64 : IntKind.i64.wrap ((z : Int) + 64) = (z : Int) + 64 := by rw [IntKind.wrap_i64]; omega
              have hs64 : ((z : Int) + 64 - (z : Int)).toNat = 64 := by omega
              have hzc : ¬ (c4 = z) := by omega
              rw [hz]
              go_upto_region 18 with fail
              refine wp_region_heldS 8 (S := (fun W' => (W'.cell? ⟨H, 0, none⟩ = some (V32 v0) ∧ W'.cell? ⟨H, 1, none⟩ = some (V32 v1) ∧ W'.cell? ⟨H, 2, none⟩ = some (V32 v2) ∧ W'.cell? ⟨H, 3, none⟩ = some (V32 v3) ∧ W'.cell? ⟨H, 4, none⟩ = some (V32 v4) ∧ W'.cell? ⟨H, 5, none⟩ = some (V32 v5) ∧ W'.cell? ⟨H, 6, none⟩ = some (V32 v6) ∧ W'.cell? ⟨H, 7, none⟩ = some (V32 v7)) ∧ W'.heap[H + 1]? = some (.cells keysV 123 (0, 0)))) (by kernel_rfl) (SK.out _ ((Below.refl wr.heap.size wr).drew)) (fun hHeld => ?_)
              refine heldS_take (i := 0) (v := ?_) rfl rfl (by kernel_rfl) (by kernel_rfl) (by kernel_rfl) (by kernel_rfl) (by kernel_rfl) (fun _ _ _ h => h) (by rfl) hHeld ?_ ?_
              rotate_left
              · rintro wh ⟨⟨d0, d1, d2, d3, d4, d5, d6, d7⟩, dk⟩
                go_simp
                (try with_reducible rfl)
              simp only [Act.put, List.setIfInBounds_toArray, List.set_cons_zero, List.set_cons_succ]
              refine heldS_take (i := 1) (v := ?_) rfl rfl (by kernel_rfl) (by kernel_rfl) (by kernel_rfl) (by kernel_rfl) (by kernel_rfl) (fun _ _ _ h => h) (by rfl) hHeld ?_ ?_
              rotate_left
              · rintro wh ⟨⟨d0, d1, d2, d3, d4, d5, d6, d7⟩, dk⟩
                refine exec_loadR 123 (.tmp 4) ?_ (H + 1) ?_ keysV 123 (.array 64 32) dk ?_ ?_ ?_
                · rfl
                · rfl
                · exact Try.underlying123
                · rfl
                · kernel_rfl
              simp only [Act.put, List.setIfInBounds_toArray, List.set_cons_zero, List.set_cons_succ]
              refine heldS_take (i := 2) (v := ?_) rfl rfl (by kernel_rfl) (by kernel_rfl) (by kernel_rfl) (by kernel_rfl) (by kernel_rfl) (fun _ _ _ h => h) (by rfl) hHeld ?_ ?_
              rotate_left
              · rintro wh ⟨⟨d0, d1, d2, d3, d4, d5, d6, d7⟩, dk⟩
                go_simp
                (try with_reducible rfl)
              simp only [Act.put, List.setIfInBounds_toArray, List.set_cons_zero, List.set_cons_succ]
              refine heldS_take (i := 3) (v := ?_) rfl rfl (by kernel_rfl) (by kernel_rfl) (by kernel_rfl) (by kernel_rfl) (by kernel_rfl) (fun _ _ _ h => h) (by rfl) hHeld ?_ ?_
              rotate_left
              · rintro wh ⟨⟨d0, d1, d2, d3, d4, d5, d6, d7⟩, dk⟩
                go_simp
                (try with_reducible rfl)
              simp only [Act.put, List.setIfInBounds_toArray, List.set_cons_zero, List.set_cons_succ]
              refine heldS_take (i := 4) (v := ?_) rfl rfl (by kernel_rfl) (by kernel_rfl) (by kernel_rfl) (by kernel_rfl) (by kernel_rfl) (fun _ _ _ h => h) (by rfl) hHeld ?_ ?_
              rotate_left
              · rintro wh ⟨⟨d0, d1, d2, d3, d4, d5, d6, d7⟩, dk⟩
                go_simp
                (try with_reducible rfl)
              simp only [Act.put, List.setIfInBounds_toArray, List.set_cons_zero, List.set_cons_succ]
              refine heldS_take (i := 5) (v := ?_) rfl rfl (by kernel_rfl) (by kernel_rfl) (by kernel_rfl) (by kernel_rfl) (by kernel_rfl) (fun _ _ _ h => h) (by rfl) hHeld ?_ ?_
              rotate_left
              · rintro wh ⟨⟨d0, d1, d2, d3, d4, d5, d6, d7⟩, dk⟩
                go_simp
                (try with_reducible rfl)
              simp only [Act.put, List.setIfInBounds_toArray, List.set_cons_zero, List.set_cons_succ]
              refine heldS_take (i := 6) (v := ?_) rfl rfl (by kernel_rfl) (by kernel_rfl) (by kernel_rfl) (by kernel_rfl) (by kernel_rfl) (fun _ _ _ h => h) (by rfl) hHeld ?_ ?_
              rotate_left
              · rintro wh ⟨⟨d0, d1, d2, d3, d4, d5, d6, d7⟩, dk⟩
                go_simp
                rw [if_pos (by omega), if_pos (by omega), show ((z : Int) + 64).toNat - z = 64 by omega]
              simp only [Act.put, List.setIfInBounds_toArray, List.set_cons_zero, List.set_cons_succ]
              refine heldS_step (i := 7) rfl (by kernel_rfl) (fun K hK => ?_)
              go_simp; refine (KR.out _ ((Below.refl wr.heap.size wr).drew)).mono ?_; rintro e u ⟨y0, y1, y2, y3, y4, y5, y6, y7, rfl, hbl, hb⟩; have hq1 : Below wr.heap.size wr u := ((Below.refl wr.heap.size wr).drew).trans (hb.mono ((Below.refl wr.heap.size wr).drew).size); have HQ1 := Lib.hid hq1; have HBL := Lib.hid hbl; clear hb hq1 hbl
              refine hK.out _ _ (SK.out _ HQ1.out) (fun hHeld => ?_)
              clear hK K
              (try simp only [Act.put, List.setIfInBounds_toArray])
              refine heldS_last (i := 8) rfl (by kernel_rfl) (by kernel_rfl) (fun K hK => ?_)
              obtain ⟨c0, c1, c2, c3, c4', c5, c6, c7⟩ := (SK.out _ HQ1.out).1; have f0 := (HS.out.later HQ1.out).h.free 0; have f1 := (HS.out.later HQ1.out).h.free 1; have f2 := (HS.out.later HQ1.out).h.free 2; have f3 := (HS.out.later HQ1.out).h.free 3; have f4 := (HS.out.later HQ1.out).h.free 4; have f5 := (HS.out.later HQ1.out).h.free 5; have f6 := (HS.out.later HQ1.out).h.free 6; have f7 := (HS.out.later HQ1.out).h.free 7; go_simp
              refine hK.out _ _ ?_
              clear hK K
              (try simp only [Act.put, List.setIfInBounds_toArray])
              refine wpAnyEnd_done (by kernel_rfl) ?_ _
              have HS8 : Hid (OfSt w ((((((((u.setCell ⟨H, 0, none⟩ (V32 y0)).setCell ⟨H, 1, none⟩ (V32 y1)).setCell ⟨H, 2, none⟩ (V32 y2)).setCell ⟨H, 3, none⟩ (V32 y3)).setCell ⟨H, 4, none⟩ (V32 y4)).setCell ⟨H, 5, none⟩ (V32 y5)).setCell ⟨H, 6, none⟩ (V32 y6)).setCell ⟨H, 7, none⟩ (V32 y7)) H Z (.slice (some ⟨g, 0, none⟩) B.length c4) B (blocksL startL B (t + 1))) := Lib.hid (by
                rw [HN.out, HBL.out]
                exact ((((((((HS.out.later HQ1.out).put hlt2 hHZ 0 y0).put hlt2 hHZ 1 y1).put hlt2 hHZ 2 y2).put hlt2 hHZ 3 y3).put hlt2 hHZ 4 y4).put hlt2 hHZ 5 y5).put hlt2 hHZ 6 y6).put hlt2 hHZ 7 y7)
              clear HS KR SK HVW HN HBL HQ1 c0 c1 c2 c3 c4' c5 c6 c7 f0 f1 f2 f3 f4 f5 f6 f7
              have hzw : (z : Int) + 64 = ((64 * (t + 1) : Nat) : Int) := by omega
              try simp only [Act.put, List.setIfInBounds_toArray, List.set_cons_zero, List.set_cons_succ]
              go_wp2
              go_roundw
              case rel => exact ⟨t + 1, by omega, by first | (congr 1; omega) | go_num, HS8⟩
              case measure => (simp [intOf]; try omega)
            · obtain rfl : t = T := by omega
              rw [show ((64 * t : Nat) : Int) = (B.length : Int) by rw [HTT.out]]
              obtain ⟨X, hX⟩ : ∃ X, blocksL startL B t = X := ⟨_, rfl⟩
              have hXl : X.length = 8 := by rw [← hX]; exact blocksL_len rfl t
              have HXW : Hid (∀ x ∈ X, W32 x) := Lib.hid (by rw [← hX]; exact blocks_word B t)
              have HFIN : Hid (ofL bs = outL X 32) := Lib.hid (by
                rw [of_whole, HBD.out, ← hX, HTT.out, Nat.mul_div_cancel_left _ (by decide)])
              rw [hX] at HS
              have hO0 := heap_alloc_new wr (.cells (Array.replicate 32 (.int .u8 0)) 106)
              have hla := alloc_below wr (.cells (Array.replicate 32 (.int .u8 0)) 106)
              have HO3 : Hid (ORow (wr.alloc (.cells (Array.replicate 32 (.int .u8 0)) 106)) wr.heap.size (outL X 0)) := Lib.hid (orow_new hO0 X)
              have HV4 := Lib.hid (HS.out.later hla).h
              have HR4 := Lib.hid (HS.out.later hla).r
              have HB4 := Lib.hid (HS.out.later hla).b
              have hHO : H < wr.heap.size := HS.out.h.lt
              have hwO : w.heap.size < wr.heap.size := by omega
              clear hO0 hla HS hX HBB
              go_upto_region 21 with fail
              change Code.wp _ _ _ _ (wr.alloc (.cells (Array.replicate 32 (.int .u8 0)) 106))
              obtain ⟨O, hO⟩ : ∃ O, wr.heap.size = O := ⟨_, rfl⟩
              rw [hO] at HO3 hHO hwO ⊢
              generalize wr.alloc (.cells (Array.replicate 32 (.int .u8 0)) 106) = wa at *
              clear hO
              go_loopw [12] (fun vi wr => ∃ k : Nat, k ≤ 32 ∧ vi = .int .i64 k ∧ Hid (ORow wr O (outL X k)) ∧ Hid (VR wr H X 121) ∧ Hid (wr.heap[w.heap.size]? = some (.cells (Array.replicate 32 (.int .u8 0)) 106 (0, 0))) ∧ Hid (Below w.heap.size w wr)) (fun vi _ => 32 - (intOf vi).toNat)
              case atStart => exact ⟨0, Nat.zero_le _, rfl, HO3, HV4, HR4, HB4⟩
              case round =>
                clear HO3 HV4 HR4 HB4
                obtain ⟨k, hk, rfl, HO, HV, HR, HB⟩ := hrel
                by_cases hkl : k < 32
                · obtain ⟨q, hq⟩ : ∃ q, k / 4 = q := ⟨_, rfl⟩
                  obtain ⟨r, hr⟩ : ∃ r, k % 4 = r := ⟨_, rfl⟩
                  have hq1 : (k : Int) / 4 = (q : Int) := by omega
                  have hr1 : (k : Int) % 4 = (r : Int) := by omega
                  have hq8 : q < 8 := by omega
                  have hI1 : (q : Int) < 8 := by omega
                  have hI2 : (k : Int) < 32 := by omega
                  have hr3 : r ≤ 3 := by omega
                  have hXq : X[q]? = some (X.getD q 0) := by rw [List.getD_eq_getElem?_getD, List.getElem?_eq_getElem (by omega)]; rfl
                  have hyw := HXW.out (X.getD q 0) (List.mem_of_getElem? hXq)
                  have hcell := HV.out.cell hXq
                  obtain ⟨y, hy⟩ : ∃ y : Nat, X.getD q 0 = (y : Int) := ⟨(X.getD q 0).toNat, by have := hyw.1; omega⟩
                  rw [hy] at hcell hyw
                  have hy32 : y < 4294967296 := by have := hyw.2; omega
                  have HYX : Hid (outAt X k = (y : Int) / 2 ^ (24 - 8 * r) % 256) := Lib.hid (by unfold outAt; rw [hq, hr, hy])
                  clear hXq hyw hy
                  go_upto_region 25 with fail
                  go_loopw [14, 13] (fun vj vn wr' => ∃ e : Nat, e + r ≤ 3 ∧ vj = .int .i64 (3 - (e : Int)) ∧ vn = .int .u32 ((y / 256 ^ e : Nat) : Int) ∧ wr' = wr) (fun vj _ _ => (intOf vj).toNat)
                  case atStart => exact ⟨0, by omega, rfl, by rw [Nat.pow_zero, Nat.div_one], by first | rfl | trivial⟩
                  case round =>
                    obtain ⟨e, he, rfl, rfl, rfl⟩ := hrel
                    have HND : Hid (y / 256 ^ (e + 1) = y / 256 ^ e / 256) := Lib.hid (by rw [Nat.pow_succ, Nat.div_div_eq_div_mul])
                    have hnb : y / 256 ^ e ≤ y := Nat.div_le_self _ _
                    obtain ⟨n', hn'⟩ : ∃ n', y / 256 ^ e = n' := ⟨_, rfl⟩
                    rw [hn'] at HND hnb ⊢
                    have hn0 : (0 : Int) ≤ (n' : Int) := by omega
                    have hn1 : (n' : Int) < 4294967296 := by omega
                    obtain ⟨j, hj⟩ : ∃ j : Nat, j + e = 3 := ⟨3 - e, by omega⟩
                    have hje : 3 - (e : Int) = (j : Int) := by omega
                    rw [hje]
                    by_cases hjr : r < j
                    · have hjr' : (r : Int) < (j : Int) := by omega
                      clear hn'
                      go_wp2
                      go_roundw
                      case rel => exact ⟨e + 1, by omega, by first | (congr 1; omega) | go_num, by rw [HND.out]; rfl, by first | rfl | trivial⟩
                      case measure => (simp [intOf]; try omega)
                    · obtain rfl : j = r := by omega
                      have HBT : Hid ((n' : Int) % 256 = (y : Int) / 2 ^ (24 - 8 * j) % 256) := Lib.hid (by
                        rw [← hn', show 24 - 8 * j = 8 * e by omega, Int.natCast_ediv, Int.natCast_pow, Int.pow_mul]; rfl)
                      obtain ⟨x, hx⟩ : ∃ x, (n' : Int) % 256 = x := ⟨_, rfl⟩
                      have hx0 : 0 ≤ x := by omega
                      have hx1 : x < 256 := by omega
                      have HX2 : Hid (outAt X k = x) := Lib.hid (by rw [HYX.out, ← HBT.out, hx])
                      have hwx : IntKind.u8.wrap x = x := by rw [IntKind.wrap_u8']; omega
                      have g2 := HO.out.old k (by simp [outL]) hkl
                      have f2 := HO.out.free k
                      have HST := Lib.hid (HO.out.store (k := k) (by simp [outL]) hkl x)
                      have HV2 := Lib.hid (HV.out.else_ (g' := O) (by omega) k (V8 x))
                      have hR2 := Lib.hid ((heap_setCell_other wr ⟨O, k, none⟩ w.heap.size (V8 x) (by show w.heap.size ≠ O; omega)).trans HR.out)
                      have hB2 := Lib.hid (HB.out.trans (below_setCell (B := w.heap.size) wr O k (V8 x) (by omega)))
                      clear hn' HND HBT HO HV HR HB HYX
                      go_wp2
                      go_roundw
                      case rel =>
                        refine ⟨k + 1, by omega, by go_num, Lib.hid ?_, HV2, hR2, hB2⟩
                        rw [outL_succ, HX2.out]
                        exact HST.out
                      case measure => (simp [intOf]; try omega)
                · obtain rfl : k = 32 := by omega
                  rw [show ((32 : Nat) : Int) = 32 from rfl]
                  have hO5 : wr.heap[O]? = some (.cells ((outL X 32).map V8).toArray 106 (0, 0)) := by have := HO.out.2; rw [outL_len] at this; simpa using this
                  go_upto_region 29 with fail
                  have hOl : ((outL X 32).map V8).toArray.size = 32 := by simp [outL]
                  have hI9 : (Try.prog.info? 106).map (·.size) = some ((outL X 32).map V8).toArray.size := by rw [hOl]; kernel_rfl
                  apply wp_region_lit
                  refine wpList_load_row rfl 106 (.tmp 11) rfl O rfl 106 ((outL X 32).map V8).toArray (0, 0) _ hO5 Try.underlying106 rfl hI9 ?_
                  refine wpList_store_row rfl 106 (.tmp 2) (.tmp 85) rfl w.heap.size ((outL X 32).map V8).toArray rfl rfl 106 _ HR.out hI9 (by rw [hOl]; rfl) (all_oneCell_toArray (v8_cells _)) ?_
                  have hg2 := setRow_heap wr w.heap.size _ ((outL X 32).map V8).toArray _ _ HR.out
                  have hb2 : Below w.heap.size w (wr.setRow w.heap.size ((outL X 32).map V8).toArray) := below_setRow HB.out (Nat.le_refl _) _
                  generalize wr.setRow w.heap.size ((outL X 32).map V8).toArray = w1 at *
                  simp only [Act.put, List.setIfInBounds_toArray, List.set_cons_zero, List.set_cons_succ]
                  show Exit.then _ _ Exit.normal _ _
                  simp only [Exit.then]
                  refine (by assumption : ∀ (a : Act) (w : World), Code.wp _ Code.ret _ a w → _) _ _ ?_
                  go_wp2
                  refine bodyPost_ret (results_cell_row rfl _ _ w.heap.size 106 ((outL X 32).map V8).toArray (0, 0) (.array 32 5) rfl hg2 Try.underlying106 rfl hI9) rfl ?_
                  exact ⟨by rw [HFIN.out], hb2⟩
end Go.Proofs.Ytipnhpfpppblhaa

/- lychgateref09.Id: a contract: it is what alert.Id hands back. -/
namespace Go.Proofs.Ytipnhpfpppblhaa
open Go.RowKit
theorem shortS_add (n x : Nat) (hn : n < 72057594037927936) (hx : x < 256) : shortS (n : Int) (x : Int) = ((n * 256 + x : Nat) : Int) := by
  unfold shortS
  have e : IntKind.u64.wrap ((n : Int) * 256) = ((2 ^ 8 * n : Nat) : Int) := by rw [IntKind.wrap_u64]; omega
  rw [e, bits_or_u64_nat _ _ (by omega) (by omega), ← Nat.two_pow_add_eq_or_of_lt hx]
  congr 1
  omega
theorem shortK_nat {F : List Int} (hF : ByteL F) (hl : F.length = 32) : ∀ k, k ≤ 8 → ∃ n : Nat, shortK F k = (n : Int) ∧ n < 256 ^ k
  | 0, _ => ⟨0, rfl, by decide⟩
  | k + 1, hk => by
    obtain ⟨n, hn, hb⟩ := shortK_nat hF hl k (by omega)
    have hx : 0 ≤ F.getD k 0 ∧ F.getD k 0 < 256 := by
      rw [List.getD_eq_getElem?_getD, List.getElem?_eq_getElem (by omega)]
      exact hF _ (List.getElem_mem _)
    obtain ⟨x, hx2⟩ : ∃ x : Nat, F.getD k 0 = (x : Int) := ⟨(F.getD k 0).toNat, by omega⟩
    have h56 : 256 ^ k ≤ 256 ^ 7 := Nat.pow_le_pow_right (by decide) (by omega)
    refine ⟨n * 256 + x, ?_, ?_⟩
    · rw [shortK, hn, hx2, shortS_add n x (by omega) (by omega)]
    · rw [Nat.pow_succ]; omega
set_option maxHeartbeats 6400000 in
set_option maxRecDepth 100000 in
theorem refid_any (src : ByteArray) (fl : List Fld) (lv : Int) (c : Nat) (fr til : Int) (v : Value) (w : World) (hv : FldsAt w v fl) (hl : (idB src fl).length ≤ 4000000) :
    Calls Try.prog 27 #[.agg #[.string src, v, .int .i64 lv, .int .u32 c, .int .i64 fr, .int .i64 til]] w fun e w' => e = .returned (.int .u64 (shortL (idB src fl))) ∧ Below w.heap.size w w' := by
  obtain ⟨fa, fc, rfl, hfc, hfr⟩ := RdAt.shape hv
  obtain ⟨i0, hi, hz0, hz1, hz2⟩ := info_parts info_u8
  have HF := Lib.hid hfr
  clear hfr hv
  have hsl : src.size ≤ 4000000 := by have := idB_le src fl 0; simp [idB, byL_len] at this hl; omega
  have hfl : fl.length ≤ 4000000 := by
    have : fl.length ≤ (fl.flatMap fldB).length := by
      clear hl HF hfc
      induction fl with
      | nil => simp
      | cons f l ih => simp only [List.flatMap_cons, List.length_append, fldB, List.length_cons, List.length_nil]; omega
    unfold idB at hl
    rw [List.length_append] at hl
    omega
  have kc := fun W => cv_run W src
  have HL := Lib.hid hl
  clear hl
  go_enter Try.func27, Try.ntmps27
  go_upto_region 1 with fail
  have hbx := alloc_below w (.cells #[.string src, .slice fa fl.length fc, .int .i64 lv, .int .u32 c, .int .i64 fr, .int .i64 til] 38)
  have hbox := box6 (Below.refl (w.alloc (.cells #[.string src, .slice fa fl.length fc, .int .i64 lv, .int .u32 c, .int .i64 fr, .int .i64 til] 38)).heap.size _)
  obtain ⟨⟨x0, x1, x2, x3, x4, x5⟩, hlt0, _⟩ := hbox
  change Code.wp _ _ _ _ (w.alloc (.cells #[.string src, .slice fa fl.length fc, .int .i64 lv, .int .u32 c, .int .i64 fr, .int .i64 til] 38))
  generalize w.alloc (.cells #[.string src, .slice fa fl.length fc, .int .i64 lv, .int .u32 c, .int .i64 fr, .int .i64 til] 38) = w0 at *
  have hcv := cv_ownM w0 src hsl
  have hca := hcv.later (alloc_below (cvW w0 src) (.cells #[V8 0] 5))
  have hcb : Below w0.heap.size w0 ((cvW w0 src).alloc (.cells #[V8 0] 5)) := (cv_below w0 src).trans ((alloc_below (cvW w0 src) (.cells #[V8 0] 5)).mono (cv_below w0 src).size)
  have hs1 := src_one (cvW w0 src) 0
  have hl1 : (byL src).length + [(0 : Int)].length ≤ 8000000 := by rw [byL_len]; simp; omega
  go_upto_region 3 with (at_builtin; (refine wpList_append_M rfl (.tmp 10) (.tmp 11) 103 rfl i0 hi hz0 hz1 hz2 w0.heap.size _ _ rfl hca _ [0] rfl hs1 hl1 hcb.size ?_); intro v1 w1 hO1 hB1)
  have hB0 := hcb.trans (hB1.mono (by omega))
  have HO0 : Hid (OwnM w1 w0.heap.size v1 (idB src (fl.take 0))) := Lib.hid (by simpa [idB] using hO1)
  have HX1 := Lib.hid x1
  clear hcv hca hcb hs1 hl1 hO1 hB1 x0 x1 x2 x3 x4 x5
  have HB0 := Lib.hid hB0
  clear hB0
  go_loopw [4, 3] (fun vi vo wr => ∃ k : Nat, k ≤ fl.length ∧ vi = .int .i64 k ∧ Hid (OwnM wr w0.heap.size vo (idB src (fl.take k))) ∧ Hid (Below w0.heap.size w0 wr)) (fun vi _ _ => fl.length - (intOf vi).toNat)
  case atStart => exact ⟨0, Nat.zero_le _, rfl, HO0, HB0⟩
  case round =>
    clear HO0 HB0
    obtain ⟨k, hk, rfl, HO, HB⟩ := hrel
    have x1 := keep_cell HX1.out HB.out hlt0
    by_cases hkl : k < fl.length
    · obtain ⟨b, o, rfl, hb, hcell⟩ := HF.out (by omega)
      obtain ⟨x, hxe⟩ : ∃ x, fl[k].1 = x := ⟨_, rfl⟩
      obtain ⟨y, hye⟩ : ∃ y, fl[k].2 = y := ⟨_, rfl⟩
      obtain ⟨hx0, hy0⟩ := fldCells_at fl k hkl
      rw [hxe] at hx0
      rw [hye] at hy0
      have hbw0 : Below w.heap.size w wr := hbx.trans (HB.out.mono hbx.size)
      have hcx : wr.cell? ⟨b, o + k * 2, none⟩ = some (.string x) := keep_cell (hcell _ _ hx0) hbw0 hb
      have hcy : wr.cell? ⟨b, o + k * 2 + 1, none⟩ = some (.string y) := keep_cell (hcell _ _ hy0) hbw0 hb
      have HYW := Lib.hid (hcell _ _ hy0)
      have hE : Hid (idB src (fl.take (k + 1)) = idB src (fl.take k) ++ byL x ++ [61] ++ byL y ++ [0]) := Lib.hid (by rw [idB_take src hkl]; unfold fldB; rw [hxe, hye]; simp only [List.append_assoc])
      have hlen := idB_le src fl (k + 1)
      rw [hE.out] at hlen
      obtain ⟨L, hL⟩ : ∃ L, idB src (fl.take k) = L := ⟨_, rfl⟩
      rw [hL] at hE hlen HO
      have hlen2 : L.length + (byL x).length + 1 + (byL y).length + 1 ≤ 4000000 := by have := HL.out; simp only [List.length_append, List.length_cons, List.length_nil] at hlen; omega
      have hL1 : L.length + (byL x).length ≤ 8000000 := by omega
      have hL2 : (L ++ byL x).length + [(61 : Int)].length ≤ 8000000 := by simp only [List.length_append, List.length_cons, List.length_nil]; omega
      have hL3 : (L ++ byL x ++ [61]).length + (byL y).length ≤ 8000000 := by simp only [List.length_append, List.length_cons, List.length_nil]; omega
      have hL4 : (L ++ byL x ++ [61] ++ byL y).length + [(0 : Int)].length ≤ 8000000 := by simp only [List.length_append, List.length_cons, List.length_nil]; omega
      have hOr := HO.out
      have hbr := HB.out
      have ho0 : w0.heap.size ≤ wr.heap.size := hbr.size
      have hi2 : (k : Int) < (fl.length : Int) := by omega
      have hx1lt : w.heap.size < wr.heap.size := by omega
      have hblt : b < wr.heap.size := by have := hbw0.size; omega
      clear hcell hxe hye hx0 hy0 hlen hlen2 hL HO HB
      go_wp2_with (first
        | (at_builtin; (refine wpList_append_M rfl (.tmp 20) (.tmp 26) 9 rfl i0 hi hz0 hz1 hz2 w0.heap.size _ _ rfl hOr _ _ rfl (src_str _ x) hL1 ho0 ?_); intro v1 u1 hO1 hB1; have hB1a : Below w0.heap.size w0 (u1.alloc (.cells #[V8 61] 5)) := (hbr.trans hB1).alloc (hbr.trans hB1).size _; have hO1a := hO1.later (alloc_below u1 (.cells #[V8 61] 5)))
        | (at_builtin; (refine wpList_append_M rfl (.tmp 27) (.tmp 28) 103 rfl i0 hi hz0 hz1 hz2 w0.heap.size _ _ rfl hO1a _ [61] rfl (src_one u1 61) hL2 hB1a.size ?_); intro v2 u2 hO2 hB2'; have hB2 := hB1a.trans hB2'; have x12 := keep_cell HX1.out hB2 hlt0; have hcy2 : u2.cell? ⟨b, o + k * 2 + 1, none⟩ = some (.string y) := keep_cell HYW.out (hbx.trans (hB2.mono hbx.size)) hb)
        | (at_builtin; (refine wpList_append_M rfl (.tmp 30) (.tmp 36) 9 rfl i0 hi hz0 hz1 hz2 w0.heap.size _ _ rfl hO2 _ _ rfl (src_str _ y) hL3 hB2.size ?_); intro v3 u3 hO3 hB3'; have hB3a : Below w0.heap.size w0 (u3.alloc (.cells #[V8 0] 5)) := (hB2.trans hB3').alloc (hB2.trans hB3').size _; have hO3a := hO3.later (alloc_below u3 (.cells #[V8 0] 5)))
        | (at_builtin; (refine wpList_append_M rfl (.tmp 37) (.tmp 38) 103 rfl i0 hi hz0 hz1 hz2 w0.heap.size _ _ rfl hO3a _ [0] rfl (src_one u3 0) hL4 hB3a.size ?_); intro v4 u4 hO4 hB4'; have hB4 := hB3a.trans hB4'))
      have HO4 : Hid (OwnM u4 w0.heap.size v4 (idB src (fl.take (k + 1)))) := Lib.hid (by rw [hE.out]; exact hO4)
      have HB4 := Lib.hid hB4
      clear hO1 hO1a hO2 hO3 hO3a hO4 hB1 hB1a hB2 hB2' hB3' hB3a hB4 hB4' x12 hcy2 hcx hcy hOr hbr
      go_roundw
      case rel => exact ⟨k + 1, by omega, by go_num, HO4, HB4⟩
      case measure => (simp [intOf]; try omega)
    · obtain rfl : k = fl.length := by omega
      have hbs := HO.out.at
      rw [List.take_length] at hbs
      have hbr := HB.out
      have hof := rof2_any (idB src fl) _ wr hbs (idB_byte src fl) (by have := HL.out; omega)
      clear hbs HO HB
      go_wp2_with fail
      refine hof.mono ?_
      rintro e w2 ⟨rfl, hb2⟩
      have hB2 := hbx.trans ((hbr.trans (hb2.mono hbr.size)).mono hbx.size)
      have hbyte : Hid (ByteL (ofL (idB src fl))) := Lib.hid (outL_byte _ _)
      obtain ⟨F, hF⟩ : ∃ F, ofL (idB src fl) = F := ⟨_, rfl⟩
      have hFl : F.length = 32 := by rw [← hF]; exact ofL_len _
      have HSH : Hid (shortL (idB src fl) = shortK F 8) := Lib.hid (by unfold shortL; rw [hF])
      rw [hF] at hbyte ⊢
      have hOl : (F.map V8).toArray.size = 32 := by simp [hFl]
      have hI9 : (Try.prog.info? 106).map (·.size) = some (F.map V8).toArray.size := by rw [hOl]; kernel_rfl
      have hcs := all_oneCell_toArray (v8_cells F)
      have hcell : ∀ k, k < 32 → (F.map V8).toArray[k]? = some (V8 (F.getD k 0)) := fun k hk => by
        rw [List.getElem?_toArray, List.getElem?_map, List.getD_eq_getElem?_getD, List.getElem?_eq_getElem (by omega)]; rfl
      have HC := Lib.hid hcell
      generalize (F.map V8).toArray = C at *
      clear hof hF hcell
      rename_i hKK
      refine hKK _ _ ?_
      refine Go.Great.wpList_allocTo rfl (some 5) rfl (.pointer (some ⟨w2.heap.size, 0, none⟩)) (.cells (Array.replicate 32 (.int .u8 0)) 106) (by go_simp; rfl) ?_
      refine wpList_store_row rfl 106 (.tmp 5) (.tmp 41) rfl w2.heap.size C rfl rfl 106 _ (heap_alloc_new _ _) hI9 (by rw [hOl]; rfl) hcs ?_
      have hg2 := setRow_heap (w2.alloc (.cells (Array.replicate 32 (.int .u8 0)) 106)) w2.heap.size _ C _ _ (heap_alloc_new _ _)
      have hb3 : Below w.heap.size w ((w2.alloc (.cells (Array.replicate 32 (.int .u8 0)) 106)).setRow w2.heap.size C) := below_setRow (hB2.alloc hB2.size _) hB2.size _
      generalize (w2.alloc (.cells (Array.replicate 32 (.int .u8 0)) 106)).setRow w2.heap.size C = w4 at *
      show Exit.then _ _ Exit.normal _ _
      simp only [Exit.then]
      have hc4 : Hid (∀ k, k < 32 → w4.cell? ⟨w2.heap.size, k, none⟩ = some (V8 (F.getD k 0))) := Lib.hid (fun k hk => by rw [cell_row hg2]; exact HC.out k hk)
      clear hg2 hI9 hcs hOl HC x1
      go_wp2
      go_loopw [7, 6] (fun i n wr => ∃ k : Nat, k ≤ 8 ∧ i = .int .i64 k ∧ n = .int .u64 (shortK F k) ∧ wr = w4) (fun i _ _ => 8 - (intOf i).toNat)
      case atStart => exact ⟨0, Nat.zero_le _, rfl, rfl, rfl⟩
      case round =>
        obtain ⟨k, hk, rfl, rfl, rfl⟩ := hrel
        obtain ⟨N, hN, hNb⟩ := shortK_nat hbyte.out hFl k hk
        have HNN := Lib.hid hN
        by_cases hkl : k < 8
        · have h56 : 256 ^ k ≤ 256 ^ 7 := Nat.pow_le_pow_right (by decide) (by omega)
          have hN56 : N < 72057594037927936 := by omega
          have hI : (k : Int) < 8 := by omega
          have g := hc4.out k (by omega)
          have hxb : 0 ≤ F.getD k 0 ∧ F.getD k 0 < 256 := by
            rw [List.getD_eq_getElem?_getD, List.getElem?_eq_getElem (by omega)]
            exact hbyte.out _ (List.getElem_mem _)
          obtain ⟨x, hx⟩ : ∃ x : Nat, F.getD k 0 = (x : Int) := ⟨(F.getD k 0).toNat, by omega⟩
          have hx256 : x < 256 := by omega
          have HS : Hid (shortK F (k + 1) = ((N * 256 + x : Nat) : Int)) := Lib.hid (by rw [shortK, hN, hx, shortS_add N x hN56 hx256])
          have q1 : IntKind.u64.wrap (x : Int) = (x : Int) := by rw [IntKind.wrap_u64]; omega
          have q2 : IntKind.u64.wrap ((N : Int) * 256) = (N : Int) * 256 := by rw [IntKind.wrap_u64]; omega
          have q3 : IntKind.u64.wrap ((N : Int) * 256 + (x : Int)) = (N : Int) * 256 + (x : Int) := by rw [IntKind.wrap_u64]; omega
          rw [hx] at g
          rw [hN]
          clear hx hN hxb h56 hNb
          go_wp2
          go_roundw
          case rel => exact ⟨k + 1, by omega, by go_num, by rw [HS.out]; (first | rfl | (congr 1; omega)), by first | trivial | rfl⟩
          case measure => (simp [intOf]; try omega)
        · obtain rfl : k = 8 := by omega
          clear hNb
          go_wp2
          go_ret
          exact ⟨by rw [HSH.out]; rfl, hb3⟩
end Go.Proofs.Ytipnhpfpppblhaa

/- Sets of numbers as rising lists: no program in sight. -/
namespace Go.Proofs.Ytipnhpfpppblhaa
def insU (x : Int) : List Int → List Int
  | [] => [x]
  | y :: l => if x < y then x :: y :: l else if x = y then y :: l else y :: insU x l
def setL (ids : List Int) : List Int := ids.foldl (fun l x => insU x l) []
abbrev Rising (l : List Int) : Prop := l.Pairwise (· < ·)
theorem mem_insU {x z : Int} {l : List Int} : z ∈ insU x l ↔ z = x ∨ z ∈ l := by
  induction l with
  | nil => simp [insU]
  | cons y l ih =>
    unfold insU
    split
    · simp
    · split
      · next h => subst h; simp
      · simp only [List.mem_cons, ih]
        constructor
        · rintro (h | h | h) <;> simp [h]
        · rintro (h | h | h) <;> simp [h]
theorem rising_insU {x : Int} {l : List Int} (h : Rising l) : Rising (insU x l) := by
  induction l with
  | nil => simp [insU]
  | cons y l ih =>
    have h' := List.pairwise_cons.1 h
    unfold insU
    split
    · next hx =>
      refine List.pairwise_cons.2 ⟨fun z hz => ?_, h⟩
      rcases List.mem_cons.1 hz with rfl | hz
      · exact hx
      · exact Int.lt_trans hx (h'.1 z hz)
    · split
      · exact h
      · next h1 h2 =>
        refine List.pairwise_cons.2 ⟨fun z hz => ?_, ih h'.2⟩
        rcases mem_insU.1 hz with rfl | hz
        · omega
        · exact h'.1 z hz
theorem rising_eq {a b : List Int} (ha : Rising a) (hb : Rising b) (h : ∀ z, z ∈ a ↔ z ∈ b) : a = b := by
  induction a generalizing b with
  | nil => cases b with
    | nil => rfl
    | cons y b => exact absurd ((h y).2 (by simp)) (by simp)
  | cons x a ih =>
    cases b with
    | nil => exact absurd ((h x).1 (by simp)) (by simp)
    | cons y b =>
      have ha' := List.pairwise_cons.1 ha
      have hb' := List.pairwise_cons.1 hb
      have hxy : x = y := by
        have h1 := (h x).1 (by simp)
        have h2 := (h y).2 (by simp)
        rcases List.mem_cons.1 h1 with h1 | h1
        · exact h1
        · rcases List.mem_cons.1 h2 with h2 | h2
          · exact h2.symm
          · have := ha'.1 y h2; have := hb'.1 x h1; omega
      subst hxy
      rw [ih ha'.2 hb'.2 (fun z => ?_)]
      constructor
      · intro hz
        have hlt := ha'.1 z hz
        rcases List.mem_cons.1 ((h z).1 (by simp [hz])) with h1 | h1
        · omega
        · exact h1
      · intro hz
        have hlt := hb'.1 z hz
        rcases List.mem_cons.1 ((h z).2 (by simp [hz])) with h1 | h1
        · omega
        · exact h1
theorem fold_insU (ids : List Int) : ∀ l, Rising l → Rising (ids.foldl (fun l x => insU x l) l) ∧ ∀ z, z ∈ ids.foldl (fun l x => insU x l) l ↔ z ∈ l ∨ z ∈ ids := by
  induction ids with
  | nil => intro l h; exact ⟨h, by simp⟩
  | cons x ids ih =>
    intro l h
    obtain ⟨h1, h2⟩ := ih (insU x l) (rising_insU h)
    refine ⟨h1, fun z => ?_⟩
    rw [List.foldl_cons, h2, mem_insU, List.mem_cons]
    constructor
    · rintro ((h | h) | h) <;> simp [h]
    · rintro (h | h | h) <;> simp [h]
theorem rising_setL (ids : List Int) : Rising (setL ids) := (fold_insU ids [] List.Pairwise.nil).1
theorem mem_setL {ids : List Int} {z : Int} : z ∈ setL ids ↔ z ∈ ids := by
  have h := (fold_insU ids [] List.Pairwise.nil).2 z
  show z ∈ ids.foldl (fun l x => insU x l) [] ↔ z ∈ ids
  rw [h]; simp
theorem setL_snoc (l : List Int) (x : Int) : setL (l ++ [x]) = insU x (setL l) := by simp [setL, List.foldl_append]
theorem insU_len (x : Int) (l : List Int) : (insU x l).length ≤ l.length + 1 := by
  induction l with
  | nil => simp [insU]
  | cons y l ih => unfold insU; split <;> (try split) <;> simp <;> omega
theorem setL_len (ids : List Int) : (setL ids).length ≤ ids.length := by
  have : ∀ r : List Int, (setL r.reverse).length ≤ r.length := by
    intro r
    induction r with
    | nil => simp [setL]
    | cons x r ih => rw [List.reverse_cons, setL_snoc]; have := insU_len x (setL r.reverse); simp; omega
  have h := this ids.reverse
  simpa using h
theorem insU_at {x : Int} {l : List Int} {k : Nat} (hr : Rising l) (hk : k ≤ l.length) (hhi : ∀ j (h : j < l.length), k ≤ j → x < l[j]) (hlo : ∀ h : 0 < k, l[k - 1]'(by omega) ≤ x) :
    insU x l = if k = 0 ∨ (∃ h : 0 < k, l[k - 1]'(by omega) ≠ x) then l.take k ++ [x] ++ l.drop k else l := by
  have hpre : ∀ j (h : j < l.length), j < k → l[j] ≤ x := by
    intro j h hj
    have hk0 : 0 < k := by omega
    have := hlo hk0
    rcases Nat.lt_or_ge j (k - 1) with h1 | h1
    · have := List.pairwise_iff_getElem.1 hr j (k - 1) (by omega) (by omega) h1
      omega
    · have e : j = k - 1 := by omega
      subst e; exact this
  split
  · next hc =>
    have hpre' : ∀ j (h : j < l.length), j < k → l[j] < x := by
      intro j h hj
      rcases hc with rfl | ⟨hk0, hne⟩
      · omega
      · have := hlo hk0
        rcases Nat.lt_or_ge j (k - 1) with h1 | h1
        · have := List.pairwise_iff_getElem.1 hr j (k - 1) (by omega) (by omega) h1
          omega
        · have e : j = k - 1 := by omega
          subst e; omega
    refine rising_eq (rising_insU hr) ?_ (fun z => ?_)
    · refine List.pairwise_append.2 ⟨List.pairwise_append.2 ⟨hr.sublist (List.take_sublist _ _), by simp, ?_⟩, hr.sublist (List.drop_sublist _ _), ?_⟩
      · intro a ha b hb
        rw [List.mem_singleton] at hb; subst hb
        obtain ⟨j, hj, rfl⟩ := List.getElem_of_mem ha
        rw [List.length_take] at hj
        rw [List.getElem_take]
        exact hpre' j (by omega) (by omega)
      · intro a ha b hb
        obtain ⟨i, hi, rfl⟩ := List.getElem_of_mem hb
        rw [List.length_drop] at hi
        rw [List.getElem_drop]
        rcases List.mem_append.1 ha with ha | ha
        · obtain ⟨j, hj, rfl⟩ := List.getElem_of_mem ha
          rw [List.length_take] at hj
          rw [List.getElem_take]
          exact List.pairwise_iff_getElem.1 hr j (k + i) (by omega) (by omega) (by omega)
        · rw [List.mem_singleton] at ha; subst ha
          exact hhi (k + i) (by omega) (by omega)
    · rw [mem_insU, List.mem_append, List.mem_append, List.mem_singleton]
      constructor
      · rintro (h | h)
        · exact .inl (.inr h)
        · rw [← List.take_append_drop k l, List.mem_append] at h
          rcases h with h | h
          · exact .inl (.inl h)
          · exact .inr h
      · rintro ((h | h) | h)
        · exact .inr (List.mem_of_mem_take h)
        · exact .inl h
        · exact .inr (List.mem_of_mem_drop h)
  · next hc =>
    have hk0 : 0 < k := by rcases Nat.eq_zero_or_pos k with h | h; exact absurd (.inl h) hc; exact h
    have hx : l[k - 1]'(by omega) = x := by
      by_cases h : l[k - 1]'(by omega) = x
      · exact h
      · exact absurd (.inr ⟨hk0, h⟩) hc
    refine rising_eq (rising_insU hr) hr (fun z => ?_)
    rw [mem_insU]
    constructor
    · rintro (rfl | h)
      · rw [← hx]; exact List.getElem_mem _
      · exact h
    · exact .inr
end Go.Proofs.Ytipnhpfpppblhaa

/- lychgateref09.At: a contract. -/
namespace Go.Proofs.Ytipnhpfpppblhaa
open Go.RowKit
theorem insUzero {x : Int} {l : List Int} (hr : Rising l) (hhi : ∀ j (h : j < l.length), x < l[j]) : insU x l = [x] ++ l := by
  have := insU_at (x := x) (k := 0) hr (Nat.zero_le _) (fun j h _ => hhi j h) (fun h => absurd h (Nat.lt_irrefl _))
  simpa using this
theorem insUmid {x : Int} {l : List Int} {k : Nat} (hr : Rising l) (hk : k < l.length) (hhi : ∀ j (h : j < l.length), k < j → x < l[j]) (hlo : l[k] < x) : insU x l = l.take (k + 1) ++ [x] ++ l.drop (k + 1) := by
  have := insU_at (x := x) (k := k + 1) hr hk (fun j h hj => hhi j h hj) (fun _ => by simp; omega)
  rw [this, if_pos (.inr ⟨Nat.succ_pos _, by simp; omega⟩)]
theorem insUthere {x : Int} {l : List Int} {k : Nat} (hr : Rising l) (hk : k < l.length) (hlo : l[k] = x) : insU x l = l := by
  refine rising_eq (rising_insU hr) hr (fun z => ?_)
  rw [mem_insU]
  constructor
  · rintro (rfl | h)
    · rw [← hlo]; exact List.getElem_mem _
    · exact h
  · exact .inr
theorem uu_cells (z : List Int) : ∀ y ∈ z.map U, y.oneCell' = true := by
  intro y hy
  obtain ⟨x, _, rfl⟩ := List.mem_map.1 hy
  rfl
theorem infoU64 : (Try.prog.info? 66).map (fun i => (i.zero, i.size, i.bytes)) = some (some (.int .u64 0), 1, 8) := by kernel_rfl
theorem rdone_new (w : World) (x : Value) (t : TypeId) : RdAt (w.alloc (.cells #[x] t)) (.slice (some ⟨w.heap.size, 0, none⟩) 1 1) 1 1 [x] :=
  RdAt.mk rfl (Nat.le_refl _) (by rw [World.size_alloc]; omega) (fun j y hj => by
    have hj0 : j = 0 := by have := (List.getElem?_eq_some_iff.1 hj).1; simpa using this
    subst hj0
    have := cell_one_new w x t 0 y hj
    simpa [Addr.add] using this)
theorem rdempty (w : World) (ad : Addr) (m c : Nat) (h : m = 0) : RdAt w (.slice (some ad) m c) 0 1 [] := ⟨by simp, .inr ⟨ad, c, by rw [h], Nat.zero_le _, fun h => absurd h (Nat.lt_irrefl _)⟩⟩
theorem ownins {w : World} {base base' : Nat} {v : Value} {k : Nat} {L : List Int} {x : Int} (h : w.ownsRow base 66 1 v (0 + k + 1 + (L.length - k)) ([] ++ (L.map U).take k ++ [U x] ++ (L.map U).drop k)) (hk : k ≤ L.length) (e : insU x L = L.take k ++ [x] ++ L.drop k) (hb : base' ≤ base) :
    w.ownsRow base' 66 1 v (insU x L).length ((insU x L).map U) := by
  have e1 : (insU x L).length = 0 + k + 1 + (L.length - k) := by rw [e]; simp; omega
  have e2 : (insU x L).map U = [] ++ (L.map U).take k ++ [U x] ++ (L.map U).drop k := by rw [e]; simp
  rw [e1, e2]
  exact own_base h hb
def atIds (rs : List Nmd) (al : List Al) (t : Int × Nat) : List Int := (al.filter fun a => rightA a && liesL rs a.fl (a.lv, a.c) t).map idA
theorem atIds_snoc (rs : List Nmd) (al : List Al) (a : Al) (t : Int × Nat) : atIds rs (al ++ [a]) t = atIds rs al t ++ (if rightA a && liesL rs a.fl (a.lv, a.c) t then [idA a] else []) := by
  unfold atIds
  rw [List.filter_append, List.map_append]
  congr 1
  cases h : (rightA a && liesL rs a.fl (a.lv, a.c) t) <;> simp [h]
theorem atIds_len (rs : List Nmd) (al : List Al) (t : Int × Nat) : (atIds rs al t).length ≤ al.length := by
  unfold atIds
  rw [List.length_map]
  exact List.length_filter_le _ _
set_option maxHeartbeats 6400000 in
set_option maxRecDepth 100000 in
theorem rat_any (s0 s1 s2 s4 s5 : Option Addr × Nat × Nat) (rs : List Nmd) (rv : Value) (l : List (Al × Value)) (v : Value) (tl : Int) (tc : Nat) (w : World) (hv : NmdsAt w rv rs) (hl : rs.length ≤ maxLen) (hfit : NmdFit rs) (ha : AlsAt w v l) (h12 : l.length ≤ 12) :
    Calls Try.prog 12 #[.agg #[SV s0, SV s1, SV s2, rv, SV s4, SV s5], v, Lab tl tc] w fun e w' => ∃ v', e = .returned v' ∧ UsAt w' v' (setL (atIds rs (l.map (·.1)) (tl, tc))) ∧ Below w.heap.size w w' := by
  obtain ⟨i0, hi, hz0, hz1, hz2⟩ := info_parts infoU64
  have kli := fun (x : Al) fv W (hx : AlFit x) (hr : rightA x = true) (h : Below w.heap.size w W) (hF : FldsAt W fv x.fl) => rlies_any s0 s1 s2 s4 s5 rs rv x.src x.fl fv x.lv x.c x.fr x.til tl tc W (hv.later h) hl hfit hx.c hF (by have := (rightF_at (whoA_iff.1 (rightA_who hr)).2.2.1).1; omega)
  obtain ⟨ra, rc, rfl, _, _⟩ := RdAt.shape hv
  obtain ⟨la, lc, rfl, _, hr⟩ := RdAt.shape ha.row
  obtain ⟨a0, n0, c0⟩ := s0
  obtain ⟨a1, n1, c1⟩ := s1
  obtain ⟨a2, n2, c2⟩ := s2
  obtain ⟨a4, n4, c4⟩ := s4
  obtain ⟨a5, n5, c5⟩ := s5
  generalize rs.length = n3 at *
  have HR := Lib.hid hr
  have HFLD := Lib.hid ha.fld
  have KLIE := Lib.hid kli
  clear hr hv hl hfit kli ha
  obtain ⟨W0, hW0⟩ : ∃ z, (w.alloc (.cells #[.slice a0 n0 c0, .slice a1 n1 c1, .slice a2 n2 c2, .slice ra n3 rc, .slice a4 n4 c4, .slice a5 n5 c5] 26)).alloc (.cells #[.int .i64 tl, .int .u32 tc] 34) = z := ⟨_, rfl⟩
  have hb0 : Below w.heap.size w W0 := by rw [← hW0]; exact (alloc_below _ _).trans ((alloc_below _ _).mono (by simp))
  have hz : w.heap.size + 1 < W0.heap.size := by rw [← hW0]; simp
  have hbb := (Below.refl W0.heap.size W0)
  rw [← hW0] at hbb
  obtain ⟨g1, g2, _, _⟩ := box_two hbb
  rw [hW0] at g1 g2
  have HC : Hid (∀ W, Below W0.heap.size W0 W → C6 w.heap.size (.slice a0 n0 c0) (.slice a1 n1 c1) (.slice a2 n2 c2) (.slice ra n3 rc) (.slice a4 n4 c4) (.slice a5 n5 c5) W ∧ W.cell? ⟨w.heap.size + 1, 0, none⟩ = some (.int .i64 tl) ∧ W.cell? ⟨w.heap.size + 1, 1, none⟩ = some (.int .u32 tc)) :=
    Lib.hid (fun W h => ⟨C6.later ⟨g1 0 _ rfl, g1 1 _ rfl, g1 2 _ rfl, g1 3 _ rfl, g1 4 _ rfl, g1 5 _ rfl⟩ h (by omega), keep_cell (g2 0 _ rfl) h hz, keep_cell (g2 1 _ rfl) h hz⟩)
  have HB0 := Lib.hid hb0
  have HZ := Lib.hid hz
  have HW0 := Lib.hid hW0
  clear g1 g2 hbb hb0 hz hW0
  go_enter Try.func12, Try.ntmps12
  go_upto_region 1 with fail
  rw [HW0.out]
  clear HW0
  go_wp2
  go_loopw [7, 8] (fun v i wr => ∃ (k : Nat) (L : List Int), k ≤ l.length ∧ i = .int .i64 k ∧ Hid (L = setL (atIds rs ((l.map (·.1)).take k) (tl, tc))) ∧ wr.ownsRow W0.heap.size 66 1 v L.length (L.map U) ∧ Below W0.heap.size W0 wr) (fun _ i _ => l.length - (intOf i).toNat)
  case atStart => exact ⟨0, [], Nat.zero_le _, rfl, Lib.hid rfl, World.ownsRow_nil _ _ _ _, Below.refl _ _⟩
  case round =>
    obtain ⟨k, L, hk, rfl, HL, hown, hbr⟩ := hrel
    have hLl : L.length ≤ 12 := by rw [HL.out]; have := setL_len (atIds rs ((l.map (·.1)).take k) (tl, tc)); have h2 := atIds_len rs ((l.map (·.1)).take k) (tl, tc); rw [List.length_take, List.length_map] at h2; omega
    have HRL : Hid (Rising L) := Lib.hid (by rw [HL.out]; exact rising_setL _)
    have HBR := Lib.hid hbr
    have HBW : Hid (Below w.heap.size w wr) := Lib.hid (HB0.out.trans (hbr.mono HB0.out.size))
    obtain ⟨⟨q0, q1, q2, q3, q4, q5⟩, t0, t1⟩ := HC.out wr hbr
    have hltw : w.heap.size + 1 < wr.heap.size := by have := HZ.out; have := hbr.size; omega
    clear hbr
    by_cases hkl : k < l.length
    · obtain ⟨b, o, rfl, hb, hcell⟩ := HR.out (by omega)
      have hcat := alCells_at l k hkl
      obtain ⟨hF, hA⟩ := HFLD.out l[k] (List.getElem_mem hkl)
      have hsn : (l.map (·.1)).take (k + 1) = (l.map (·.1)).take k ++ [l[k].1] := by rw [List.take_succ_eq_append_getElem (by simpa using hkl)]; simp
      have hatn : setL (atIds rs ((l.map (·.1)).take (k + 1)) (tl, tc)) = if rightA l[k].1 && liesL rs l[k].1.fl (l[k].1.lv, l[k].1.c) (tl, tc) then insU (idA l[k].1) L else L := by
        rw [hsn, atIds_snoc]
        split
        · rw [setL_snoc, HL.out]
        · rw [List.append_nil, HL.out]
      obtain ⟨⟨⟨src, fl, lv, c, fr, til⟩, fv⟩, hx⟩ : ∃ z, l[k] = z := ⟨_, rfl⟩
      rw [hx] at hcat hF hA hatn
      dsimp only at hcat hF hA hatn
      obtain ⟨fa, fc, rfl, _, _⟩ := RdAt.shape hF
      have q : ∀ i v, (alC ⟨src, fl, lv, c, fr, til⟩ (.slice fa fl.length fc))[i]? = some v → wr.cell? ⟨b, o + k * 6 + i, none⟩ = some v := fun i v hi => keep_cell (by have := hcell _ _ (hcat i v hi); rwa [← Nat.add_assoc] at this) HBW.out hb
      have x0 : wr.cell? ⟨b, o + k * 6, none⟩ = some (.string src) := q 0 _ rfl
      have x1 : wr.cell? ⟨b, o + k * 6 + 1, none⟩ = some (.slice fa fl.length fc) := q 1 _ rfl
      have x2 : wr.cell? ⟨b, o + k * 6 + 2, none⟩ = some (.int .i64 lv) := q 2 _ rfl
      have x3 : wr.cell? ⟨b, o + k * 6 + 3, none⟩ = some (.int .u32 c) := q 3 _ rfl
      have x4 : wr.cell? ⟨b, o + k * 6 + 4, none⟩ = some (.int .i64 fr) := q 4 _ rfl
      have x5 : wr.cell? ⟨b, o + k * 6 + 5, none⟩ = some (.int .i64 til) := q 5 _ rfl
      have hbl : b < wr.heap.size := Nat.lt_of_lt_of_le hb HBW.out.size
      have krt := fun W (h : Below wr.heap.size wr W) => r9right_any src fl lv c fr til (.slice fa fl.length fc) W hA.src (hF.later (HBW.out.trans (h.mono HBW.out.size))) hA.fl hA.len
      have hi0 : (0 : Int) ≤ (k : Int) := by omega
      have hi1 : (k : Int) < (l.length : Int) := by omega
      have HN := Lib.hid hatn
      have HL' := Lib.hid HL.out
      clear q hcell hcat hx HL hatn
      cases hr : rightA ⟨src, fl, lv, c, fr, til⟩
      · have KRT : Hid (∀ W, Below wr.heap.size wr W → Calls Try.prog 13 #[.agg #[.string src, .slice fa fl.length fc, .int .i64 lv, .int .u32 c, .int .i64 fr, .int .i64 til]] W fun e w' => e = .returned (.bool false) ∧ Below W.heap.size W w') := Lib.hid (fun W h => hr ▸ krt W h)
        have HNL : Hid (L = setL (atIds rs ((l.map (·.1)).take (k + 1)) (tl, tc))) := Lib.hid (by rw [HN.out, hr]; rfl)
        clear krt hr HN
        go_upto_region 5 with fail
        refine wp_region_held_drew (S := (fun W => W.cell? ⟨w.heap.size, 0, none⟩ = some (.slice a0 n0 c0) ∧ W.cell? ⟨w.heap.size, 1, none⟩ = some (.slice a1 n1 c1) ∧ W.cell? ⟨w.heap.size, 2, none⟩ = some (.slice a2 n2 c2) ∧ W.cell? ⟨w.heap.size, 3, none⟩ = some (.slice ra n3 rc) ∧ W.cell? ⟨w.heap.size, 4, none⟩ = some (.slice a4 n4 c4) ∧ W.cell? ⟨w.heap.size, 5, none⟩ = some (.slice a5 n5 c5) ∧ W.cell? ⟨w.heap.size + 1, 0, none⟩ = some (.int .i64 tl) ∧ W.cell? ⟨w.heap.size + 1, 1, none⟩ = some (.int .u32 tc) ∧ W.cell? ⟨b, o + k * 6, none⟩ = some (.string src) ∧ W.cell? ⟨b, o + k * 6 + 1, none⟩ = some (.slice fa fl.length fc) ∧ W.cell? ⟨b, o + k * 6 + 2, none⟩ = some (.int .i64 lv) ∧ W.cell? ⟨b, o + k * 6 + 3, none⟩ = some (.int .u32 c) ∧ W.cell? ⟨b, o + k * 6 + 4, none⟩ = some (.int .i64 fr) ∧ W.cell? ⟨b, o + k * 6 + 5, none⟩ = some (.int .i64 til))) (by kernel_rfl) ⟨q0, q1, q2, q3, q4, q5, t0, t1, x0, x1, x2, x3, x4, x5⟩ (fun hHeld => ?_)
        have hd : Below wr.heap.size wr wr.drew := (Below.refl _ _).drew
        refine held_take (i := 0) (v := ?_) rfl rfl (by kernel_rfl) (by kernel_rfl) (by kernel_rfl) (fun _ _ _ h => h) (by rfl) hHeld ?_ ?_
        rotate_left
        · rintro wh ⟨z0, z1, z2, z3, z4, z5, z6, z7, z8, z9, z10, z11, z12, z13⟩
          go_simp
          (try with_reducible rfl)
        simp only [Act.put, List.setIfInBounds_toArray, List.set_cons_zero, List.set_cons_succ]
        refine held_take (i := 1) (v := ?_) rfl rfl (by kernel_rfl) (by kernel_rfl) (by kernel_rfl) (fun _ _ _ h => h) (by rfl) hHeld ?_ ?_
        rotate_left
        · rintro wh ⟨z0, z1, z2, z3, z4, z5, z6, z7, z8, z9, z10, z11, z12, z13⟩
          go_simp
          (try with_reducible rfl)
        simp only [Act.put, List.setIfInBounds_toArray, List.set_cons_zero, List.set_cons_succ]
        refine held_take (i := 2) (v := ?_) rfl rfl (by kernel_rfl) (by kernel_rfl) (by kernel_rfl) (fun _ _ _ h => h) (by rfl) hHeld ?_ ?_
        rotate_left
        · rintro wh ⟨z0, z1, z2, z3, z4, z5, z6, z7, z8, z9, z10, z11, z12, z13⟩
          go_simp
          (try with_reducible rfl)
        simp only [Act.put, List.setIfInBounds_toArray, List.set_cons_zero, List.set_cons_succ]
        refine held_take (i := 3) (v := ?_) rfl rfl (by kernel_rfl) (by kernel_rfl) (by kernel_rfl) (fun _ _ _ h => h) (by rfl) hHeld ?_ ?_
        rotate_left
        · rintro wh ⟨z0, z1, z2, z3, z4, z5, z6, z7, z8, z9, z10, z11, z12, z13⟩
          go_simp
          (try with_reducible rfl)
        simp only [Act.put, List.setIfInBounds_toArray, List.set_cons_zero, List.set_cons_succ]
        refine held_call (i := 4) rfl (by kernel_rfl) (by rfl) (fun K hK => ?_)
        (go_simp; go_at_call 13; refine (KRT.out _ hd).mono ?_; rintro e v8 ⟨rfl, hb8⟩; have hB8 := hd.trans (hb8.mono hd.size))
        refine hK.out _ _ ⟨keep_cell q0 hB8 (by omega), keep_cell q1 hB8 (by omega), keep_cell q2 hB8 (by omega), keep_cell q3 hB8 (by omega), keep_cell q4 hB8 (by omega), keep_cell q5 hB8 (by omega), keep_cell t0 hB8 (by omega), keep_cell t1 hB8 (by omega), keep_cell x0 hB8 hbl, keep_cell x1 hB8 hbl, keep_cell x2 hB8 hbl, keep_cell x3 hB8 hbl, keep_cell x4 hB8 hbl, keep_cell x5 hB8 hbl⟩ (fun hHeld => ?_)
        clear hK K
        (try simp only [Act.put, List.setIfInBounds_toArray, List.set_cons_zero, List.set_cons_succ])
        refine held_take (i := 5) (v := ?_) rfl rfl (by kernel_rfl) (by kernel_rfl) (by kernel_rfl) (fun _ _ _ h => h) (by rfl) hHeld ?_ ?_
        rotate_left
        · rintro wh ⟨z0, z1, z2, z3, z4, z5, z6, z7, z8, z9, z10, z11, z12, z13⟩
          go_simp
          (try with_reducible rfl)
        simp only [Act.put, List.setIfInBounds_toArray, List.set_cons_zero, List.set_cons_succ]
        refine held_take (i := 6) (v := ?_) rfl rfl (by kernel_rfl) (by kernel_rfl) (by kernel_rfl) (fun _ _ _ h => h) (by rfl) hHeld ?_ ?_
        rotate_left
        · rintro wh ⟨z0, z1, z2, z3, z4, z5, z6, z7, z8, z9, z10, z11, z12, z13⟩
          go_simp
          (try with_reducible rfl)
        simp only [Act.put, List.setIfInBounds_toArray, List.set_cons_zero, List.set_cons_succ]
        refine held_skip (i := 7) rfl rfl (by kernel_rfl) (by kernel_rfl) (by kernel_rfl) (fun _ _ _ h => h) (by rfl) hHeld ?_
        simp only [Act.put, List.setIfInBounds_toArray, List.set_cons_zero, List.set_cons_succ]
        refine held_skip (i := 8) rfl rfl (by kernel_rfl) (by kernel_rfl) (by kernel_rfl) (fun _ _ _ h => h) (by rfl) hHeld ?_
        simp only [Act.put, List.setIfInBounds_toArray, List.set_cons_zero, List.set_cons_succ]
        refine held_skip (i := 9) rfl rfl (by kernel_rfl) (by kernel_rfl) (by kernel_rfl) (fun _ _ _ h => h) (by rfl) hHeld ?_
        simp only [Act.put, List.setIfInBounds_toArray, List.set_cons_zero, List.set_cons_succ]
        refine held_skip (i := 10) rfl rfl (by kernel_rfl) (by kernel_rfl) (by kernel_rfl) (fun _ _ _ h => h) (by rfl) hHeld ?_
        simp only [Act.put, List.setIfInBounds_toArray, List.set_cons_zero, List.set_cons_succ]
        refine held_skip (i := 11) rfl rfl (by kernel_rfl) (by kernel_rfl) (by kernel_rfl) (fun _ _ _ h => h) (by rfl) hHeld ?_
        simp only [Act.put, List.setIfInBounds_toArray, List.set_cons_zero, List.set_cons_succ]
        refine held_skip (i := 12) rfl rfl (by kernel_rfl) (by kernel_rfl) (by kernel_rfl) (fun _ _ _ h => h) (by rfl) hHeld ?_
        simp only [Act.put, List.setIfInBounds_toArray, List.set_cons_zero, List.set_cons_succ]
        refine held_skip (i := 13) rfl rfl (by kernel_rfl) (by kernel_rfl) (by kernel_rfl) (fun _ _ _ h => h) (by rfl) hHeld ?_
        simp only [Act.put, List.setIfInBounds_toArray, List.set_cons_zero, List.set_cons_succ]
        refine held_skip (i := 14) rfl rfl (by kernel_rfl) (by kernel_rfl) (by kernel_rfl) (fun _ _ _ h => h) (by rfl) hHeld ?_
        simp only [Act.put, List.setIfInBounds_toArray, List.set_cons_zero, List.set_cons_succ]
        refine held_take (i := 15) (v := ?_) rfl rfl (by kernel_rfl) (by kernel_rfl) (by kernel_rfl) (fun _ _ _ h => h) (by rfl) hHeld ?_ ?_
        rotate_left
        · rintro wh ⟨z0, z1, z2, z3, z4, z5, z6, z7, z8, z9, z10, z11, z12, z13⟩
          go_simp
          (try with_reducible rfl)
        simp only [Act.put, List.setIfInBounds_toArray, List.set_cons_zero, List.set_cons_succ]
        refine wpAnyH_done (by kernel_rfl) ?_ _
        go_wp2
        go_roundw
        case rel => exact ⟨k + 1, L, by omega, by go_num, HNL, own_later hown (hd.trans (hb8.mono hd.size)), HBR.out.trans (hB8.mono HBR.out.size)⟩
        case measure => (simp [intOf]; try omega)
      · have KRT : Hid (∀ W, Below wr.heap.size wr W → Calls Try.prog 13 #[.agg #[.string src, .slice fa fl.length fc, .int .i64 lv, .int .u32 c, .int .i64 fr, .int .i64 til]] W fun e w' => e = .returned (.bool true) ∧ Below W.heap.size W w') := Lib.hid (fun W h => hr ▸ krt W h)
        have kli := fun W (h : Below wr.heap.size wr W) => KLIE.out ⟨src, fl, lv, c, fr, til⟩ (.slice fa fl.length fc) W hA hr (HBW.out.trans (h.mono HBW.out.size)) (hF.later (HBW.out.trans (h.mono HBW.out.size)))
        dsimp only at kli
        have KID := Lib.hid (fun W (h : Below wr.heap.size wr W) => refid_any src fl lv c fr til (.slice fa fl.length fc) W (hF.later (HBW.out.trans (h.mono HBW.out.size))) (idB_bound (rightA_who hr)))
        rw [hr, Bool.true_and] at HN
        clear krt hr
        cases hli : liesL rs fl (lv, c) (tl, tc)
        · rw [hli] at kli HN
          have KLI := Lib.hid kli
          have HNL : Hid (L = setL (atIds rs ((l.map (·.1)).take (k + 1)) (tl, tc))) := Lib.hid (by rw [HN.out]; rfl)
          clear kli hli HN KID
          go_upto_region 5 with fail
          refine wp_region_held_drew (S := (fun W => W.cell? ⟨w.heap.size, 0, none⟩ = some (.slice a0 n0 c0) ∧ W.cell? ⟨w.heap.size, 1, none⟩ = some (.slice a1 n1 c1) ∧ W.cell? ⟨w.heap.size, 2, none⟩ = some (.slice a2 n2 c2) ∧ W.cell? ⟨w.heap.size, 3, none⟩ = some (.slice ra n3 rc) ∧ W.cell? ⟨w.heap.size, 4, none⟩ = some (.slice a4 n4 c4) ∧ W.cell? ⟨w.heap.size, 5, none⟩ = some (.slice a5 n5 c5) ∧ W.cell? ⟨w.heap.size + 1, 0, none⟩ = some (.int .i64 tl) ∧ W.cell? ⟨w.heap.size + 1, 1, none⟩ = some (.int .u32 tc) ∧ W.cell? ⟨b, o + k * 6, none⟩ = some (.string src) ∧ W.cell? ⟨b, o + k * 6 + 1, none⟩ = some (.slice fa fl.length fc) ∧ W.cell? ⟨b, o + k * 6 + 2, none⟩ = some (.int .i64 lv) ∧ W.cell? ⟨b, o + k * 6 + 3, none⟩ = some (.int .u32 c) ∧ W.cell? ⟨b, o + k * 6 + 4, none⟩ = some (.int .i64 fr) ∧ W.cell? ⟨b, o + k * 6 + 5, none⟩ = some (.int .i64 til))) (by kernel_rfl) ⟨q0, q1, q2, q3, q4, q5, t0, t1, x0, x1, x2, x3, x4, x5⟩ (fun hHeld => ?_)
          have hd : Below wr.heap.size wr wr.drew := (Below.refl _ _).drew
          refine held_take (i := 0) (v := ?_) rfl rfl (by kernel_rfl) (by kernel_rfl) (by kernel_rfl) (fun _ _ _ h => h) (by rfl) hHeld ?_ ?_
          rotate_left
          · rintro wh ⟨z0, z1, z2, z3, z4, z5, z6, z7, z8, z9, z10, z11, z12, z13⟩
            go_simp
            (try with_reducible rfl)
          simp only [Act.put, List.setIfInBounds_toArray, List.set_cons_zero, List.set_cons_succ]
          refine held_take (i := 1) (v := ?_) rfl rfl (by kernel_rfl) (by kernel_rfl) (by kernel_rfl) (fun _ _ _ h => h) (by rfl) hHeld ?_ ?_
          rotate_left
          · rintro wh ⟨z0, z1, z2, z3, z4, z5, z6, z7, z8, z9, z10, z11, z12, z13⟩
            go_simp
            (try with_reducible rfl)
          simp only [Act.put, List.setIfInBounds_toArray, List.set_cons_zero, List.set_cons_succ]
          refine held_take (i := 2) (v := ?_) rfl rfl (by kernel_rfl) (by kernel_rfl) (by kernel_rfl) (fun _ _ _ h => h) (by rfl) hHeld ?_ ?_
          rotate_left
          · rintro wh ⟨z0, z1, z2, z3, z4, z5, z6, z7, z8, z9, z10, z11, z12, z13⟩
            go_simp
            (try with_reducible rfl)
          simp only [Act.put, List.setIfInBounds_toArray, List.set_cons_zero, List.set_cons_succ]
          refine held_take (i := 3) (v := ?_) rfl rfl (by kernel_rfl) (by kernel_rfl) (by kernel_rfl) (fun _ _ _ h => h) (by rfl) hHeld ?_ ?_
          rotate_left
          · rintro wh ⟨z0, z1, z2, z3, z4, z5, z6, z7, z8, z9, z10, z11, z12, z13⟩
            go_simp
            (try with_reducible rfl)
          simp only [Act.put, List.setIfInBounds_toArray, List.set_cons_zero, List.set_cons_succ]
          refine held_call (i := 4) rfl (by kernel_rfl) (by rfl) (fun K hK => ?_)
          (go_simp; go_at_call 13; refine (KRT.out _ hd).mono ?_; rintro e v8 ⟨rfl, hb8⟩; have hB8 := hd.trans (hb8.mono hd.size))
          refine hK.out _ _ ⟨keep_cell q0 hB8 (by omega), keep_cell q1 hB8 (by omega), keep_cell q2 hB8 (by omega), keep_cell q3 hB8 (by omega), keep_cell q4 hB8 (by omega), keep_cell q5 hB8 (by omega), keep_cell t0 hB8 (by omega), keep_cell t1 hB8 (by omega), keep_cell x0 hB8 hbl, keep_cell x1 hB8 hbl, keep_cell x2 hB8 hbl, keep_cell x3 hB8 hbl, keep_cell x4 hB8 hbl, keep_cell x5 hB8 hbl⟩ (fun hHeld => ?_)
          clear hK K
          (try simp only [Act.put, List.setIfInBounds_toArray, List.set_cons_zero, List.set_cons_succ])
          refine held_take (i := 5) (v := ?_) rfl rfl (by kernel_rfl) (by kernel_rfl) (by kernel_rfl) (fun _ _ _ h => h) (by rfl) hHeld ?_ ?_
          rotate_left
          · rintro wh ⟨z0, z1, z2, z3, z4, z5, z6, z7, z8, z9, z10, z11, z12, z13⟩
            go_simp
            (try with_reducible rfl)
          simp only [Act.put, List.setIfInBounds_toArray, List.set_cons_zero, List.set_cons_succ]
          refine held_take (i := 6) (v := ?_) rfl rfl (by kernel_rfl) (by kernel_rfl) (by kernel_rfl) (fun _ _ _ h => h) (by rfl) hHeld ?_ ?_
          rotate_left
          · rintro wh ⟨z0, z1, z2, z3, z4, z5, z6, z7, z8, z9, z10, z11, z12, z13⟩
            go_simp
            (try with_reducible rfl)
          simp only [Act.put, List.setIfInBounds_toArray, List.set_cons_zero, List.set_cons_succ]
          refine held_take (i := 7) (v := ?_) rfl rfl (by kernel_rfl) (by kernel_rfl) (by kernel_rfl) (fun _ _ _ h => h) (by rfl) hHeld ?_ ?_
          rotate_left
          · rintro wh ⟨z0, z1, z2, z3, z4, z5, z6, z7, z8, z9, z10, z11, z12, z13⟩
            go_simp
            (try with_reducible rfl)
          simp only [Act.put, List.setIfInBounds_toArray, List.set_cons_zero, List.set_cons_succ]
          refine held_take (i := 8) (v := ?_) rfl rfl (by kernel_rfl) (by kernel_rfl) (by kernel_rfl) (fun _ _ _ h => h) (by rfl) hHeld ?_ ?_
          rotate_left
          · rintro wh ⟨z0, z1, z2, z3, z4, z5, z6, z7, z8, z9, z10, z11, z12, z13⟩
            go_simp
            (try with_reducible rfl)
          simp only [Act.put, List.setIfInBounds_toArray, List.set_cons_zero, List.set_cons_succ]
          refine held_take (i := 9) (v := ?_) rfl rfl (by kernel_rfl) (by kernel_rfl) (by kernel_rfl) (fun _ _ _ h => h) (by rfl) hHeld ?_ ?_
          rotate_left
          · rintro wh ⟨z0, z1, z2, z3, z4, z5, z6, z7, z8, z9, z10, z11, z12, z13⟩
            go_simp
            (try with_reducible rfl)
          simp only [Act.put, List.setIfInBounds_toArray, List.set_cons_zero, List.set_cons_succ]
          refine held_take (i := 10) (v := ?_) rfl rfl (by kernel_rfl) (by kernel_rfl) (by kernel_rfl) (fun _ _ _ h => h) (by rfl) hHeld ?_ ?_
          rotate_left
          · rintro wh ⟨z0, z1, z2, z3, z4, z5, z6, z7, z8, z9, z10, z11, z12, z13⟩
            go_simp
            (try with_reducible rfl)
          simp only [Act.put, List.setIfInBounds_toArray, List.set_cons_zero, List.set_cons_succ]
          refine held_take (i := 11) (v := ?_) rfl rfl (by kernel_rfl) (by kernel_rfl) (by kernel_rfl) (fun _ _ _ h => h) (by rfl) hHeld ?_ ?_
          rotate_left
          · rintro wh ⟨z0, z1, z2, z3, z4, z5, z6, z7, z8, z9, z10, z11, z12, z13⟩
            go_simp
            (try with_reducible rfl)
          simp only [Act.put, List.setIfInBounds_toArray, List.set_cons_zero, List.set_cons_succ]
          refine held_take (i := 12) (v := ?_) rfl rfl (by kernel_rfl) (by kernel_rfl) (by kernel_rfl) (fun _ _ _ h => h) (by rfl) hHeld ?_ ?_
          rotate_left
          · rintro wh ⟨z0, z1, z2, z3, z4, z5, z6, z7, z8, z9, z10, z11, z12, z13⟩
            go_simp
            (try with_reducible rfl)
          simp only [Act.put, List.setIfInBounds_toArray, List.set_cons_zero, List.set_cons_succ]
          refine held_call (i := 13) rfl (by kernel_rfl) (by rfl) (fun K hK => ?_)
          (go_simp; go_at_call 34; refine (KLI.out _ hB8).mono ?_; rintro e v9 ⟨rfl, hb9⟩; have hB9 := hB8.trans (hb9.mono hB8.size))
          refine hK.out _ _ ⟨keep_cell q0 hB9 (by omega), keep_cell q1 hB9 (by omega), keep_cell q2 hB9 (by omega), keep_cell q3 hB9 (by omega), keep_cell q4 hB9 (by omega), keep_cell q5 hB9 (by omega), keep_cell t0 hB9 (by omega), keep_cell t1 hB9 (by omega), keep_cell x0 hB9 hbl, keep_cell x1 hB9 hbl, keep_cell x2 hB9 hbl, keep_cell x3 hB9 hbl, keep_cell x4 hB9 hbl, keep_cell x5 hB9 hbl⟩ (fun hHeld => ?_)
          clear hK K
          (try simp only [Act.put, List.setIfInBounds_toArray, List.set_cons_zero, List.set_cons_succ])
          refine held_take (i := 14) (v := ?_) rfl rfl (by kernel_rfl) (by kernel_rfl) (by kernel_rfl) (fun _ _ _ h => h) (by rfl) hHeld ?_ ?_
          rotate_left
          · rintro wh ⟨z0, z1, z2, z3, z4, z5, z6, z7, z8, z9, z10, z11, z12, z13⟩
            go_simp
            (try with_reducible rfl)
          simp only [Act.put, List.setIfInBounds_toArray, List.set_cons_zero, List.set_cons_succ]
          refine held_take (i := 15) (v := ?_) rfl rfl (by kernel_rfl) (by kernel_rfl) (by kernel_rfl) (fun _ _ _ h => h) (by rfl) hHeld ?_ ?_
          rotate_left
          · rintro wh ⟨z0, z1, z2, z3, z4, z5, z6, z7, z8, z9, z10, z11, z12, z13⟩
            go_simp
            (try with_reducible rfl)
          simp only [Act.put, List.setIfInBounds_toArray, List.set_cons_zero, List.set_cons_succ]
          refine wpAnyH_done (by kernel_rfl) ?_ _
          go_wp2
          go_roundw
          case rel => exact ⟨k + 1, L, by omega, by go_num, HNL, own_later hown hB9, HBR.out.trans (hB9.mono HBR.out.size)⟩
          case measure => (simp [intOf]; try omega)
        · rw [hli, if_pos rfl] at HN
          rw [hli] at kli
          have KLI := Lib.hid kli
          clear kli hli
          rw [show idA ⟨src, fl, lv, c, fr, til⟩ = shortL (idB src fl) from rfl] at HN
          generalize shortL (idB src fl) = x at *
          have HOW := Lib.hid hown
          clear hown
          go_upto_region 5 with fail
          refine wp_region_held_drew (S := (fun W => W.cell? ⟨w.heap.size, 0, none⟩ = some (.slice a0 n0 c0) ∧ W.cell? ⟨w.heap.size, 1, none⟩ = some (.slice a1 n1 c1) ∧ W.cell? ⟨w.heap.size, 2, none⟩ = some (.slice a2 n2 c2) ∧ W.cell? ⟨w.heap.size, 3, none⟩ = some (.slice ra n3 rc) ∧ W.cell? ⟨w.heap.size, 4, none⟩ = some (.slice a4 n4 c4) ∧ W.cell? ⟨w.heap.size, 5, none⟩ = some (.slice a5 n5 c5) ∧ W.cell? ⟨w.heap.size + 1, 0, none⟩ = some (.int .i64 tl) ∧ W.cell? ⟨w.heap.size + 1, 1, none⟩ = some (.int .u32 tc) ∧ W.cell? ⟨b, o + k * 6, none⟩ = some (.string src) ∧ W.cell? ⟨b, o + k * 6 + 1, none⟩ = some (.slice fa fl.length fc) ∧ W.cell? ⟨b, o + k * 6 + 2, none⟩ = some (.int .i64 lv) ∧ W.cell? ⟨b, o + k * 6 + 3, none⟩ = some (.int .u32 c) ∧ W.cell? ⟨b, o + k * 6 + 4, none⟩ = some (.int .i64 fr) ∧ W.cell? ⟨b, o + k * 6 + 5, none⟩ = some (.int .i64 til))) (by kernel_rfl) ⟨q0, q1, q2, q3, q4, q5, t0, t1, x0, x1, x2, x3, x4, x5⟩ (fun hHeld => ?_)
          have hd : Below wr.heap.size wr wr.drew := (Below.refl _ _).drew
          refine held_take (i := 0) (v := ?_) rfl rfl (by kernel_rfl) (by kernel_rfl) (by kernel_rfl) (fun _ _ _ h => h) (by rfl) hHeld ?_ ?_
          rotate_left
          · rintro wh ⟨z0, z1, z2, z3, z4, z5, z6, z7, z8, z9, z10, z11, z12, z13⟩
            go_simp
            (try with_reducible rfl)
          simp only [Act.put, List.setIfInBounds_toArray, List.set_cons_zero, List.set_cons_succ]
          refine held_take (i := 1) (v := ?_) rfl rfl (by kernel_rfl) (by kernel_rfl) (by kernel_rfl) (fun _ _ _ h => h) (by rfl) hHeld ?_ ?_
          rotate_left
          · rintro wh ⟨z0, z1, z2, z3, z4, z5, z6, z7, z8, z9, z10, z11, z12, z13⟩
            go_simp
            (try with_reducible rfl)
          simp only [Act.put, List.setIfInBounds_toArray, List.set_cons_zero, List.set_cons_succ]
          refine held_take (i := 2) (v := ?_) rfl rfl (by kernel_rfl) (by kernel_rfl) (by kernel_rfl) (fun _ _ _ h => h) (by rfl) hHeld ?_ ?_
          rotate_left
          · rintro wh ⟨z0, z1, z2, z3, z4, z5, z6, z7, z8, z9, z10, z11, z12, z13⟩
            go_simp
            (try with_reducible rfl)
          simp only [Act.put, List.setIfInBounds_toArray, List.set_cons_zero, List.set_cons_succ]
          refine held_take (i := 3) (v := ?_) rfl rfl (by kernel_rfl) (by kernel_rfl) (by kernel_rfl) (fun _ _ _ h => h) (by rfl) hHeld ?_ ?_
          rotate_left
          · rintro wh ⟨z0, z1, z2, z3, z4, z5, z6, z7, z8, z9, z10, z11, z12, z13⟩
            go_simp
            (try with_reducible rfl)
          simp only [Act.put, List.setIfInBounds_toArray, List.set_cons_zero, List.set_cons_succ]
          refine held_call (i := 4) rfl (by kernel_rfl) (by rfl) (fun K hK => ?_)
          (go_simp; go_at_call 13; refine (KRT.out _ hd).mono ?_; rintro e v8 ⟨rfl, hb8⟩; have hB8 := hd.trans (hb8.mono hd.size))
          refine hK.out _ _ ⟨keep_cell q0 hB8 (by omega), keep_cell q1 hB8 (by omega), keep_cell q2 hB8 (by omega), keep_cell q3 hB8 (by omega), keep_cell q4 hB8 (by omega), keep_cell q5 hB8 (by omega), keep_cell t0 hB8 (by omega), keep_cell t1 hB8 (by omega), keep_cell x0 hB8 hbl, keep_cell x1 hB8 hbl, keep_cell x2 hB8 hbl, keep_cell x3 hB8 hbl, keep_cell x4 hB8 hbl, keep_cell x5 hB8 hbl⟩ (fun hHeld => ?_)
          clear hK K
          (try simp only [Act.put, List.setIfInBounds_toArray, List.set_cons_zero, List.set_cons_succ])
          refine held_take (i := 5) (v := ?_) rfl rfl (by kernel_rfl) (by kernel_rfl) (by kernel_rfl) (fun _ _ _ h => h) (by rfl) hHeld ?_ ?_
          rotate_left
          · rintro wh ⟨z0, z1, z2, z3, z4, z5, z6, z7, z8, z9, z10, z11, z12, z13⟩
            go_simp
            (try with_reducible rfl)
          simp only [Act.put, List.setIfInBounds_toArray, List.set_cons_zero, List.set_cons_succ]
          refine held_take (i := 6) (v := ?_) rfl rfl (by kernel_rfl) (by kernel_rfl) (by kernel_rfl) (fun _ _ _ h => h) (by rfl) hHeld ?_ ?_
          rotate_left
          · rintro wh ⟨z0, z1, z2, z3, z4, z5, z6, z7, z8, z9, z10, z11, z12, z13⟩
            go_simp
            (try with_reducible rfl)
          simp only [Act.put, List.setIfInBounds_toArray, List.set_cons_zero, List.set_cons_succ]
          refine held_take (i := 7) (v := ?_) rfl rfl (by kernel_rfl) (by kernel_rfl) (by kernel_rfl) (fun _ _ _ h => h) (by rfl) hHeld ?_ ?_
          rotate_left
          · rintro wh ⟨z0, z1, z2, z3, z4, z5, z6, z7, z8, z9, z10, z11, z12, z13⟩
            go_simp
            (try with_reducible rfl)
          simp only [Act.put, List.setIfInBounds_toArray, List.set_cons_zero, List.set_cons_succ]
          refine held_take (i := 8) (v := ?_) rfl rfl (by kernel_rfl) (by kernel_rfl) (by kernel_rfl) (fun _ _ _ h => h) (by rfl) hHeld ?_ ?_
          rotate_left
          · rintro wh ⟨z0, z1, z2, z3, z4, z5, z6, z7, z8, z9, z10, z11, z12, z13⟩
            go_simp
            (try with_reducible rfl)
          simp only [Act.put, List.setIfInBounds_toArray, List.set_cons_zero, List.set_cons_succ]
          refine held_take (i := 9) (v := ?_) rfl rfl (by kernel_rfl) (by kernel_rfl) (by kernel_rfl) (fun _ _ _ h => h) (by rfl) hHeld ?_ ?_
          rotate_left
          · rintro wh ⟨z0, z1, z2, z3, z4, z5, z6, z7, z8, z9, z10, z11, z12, z13⟩
            go_simp
            (try with_reducible rfl)
          simp only [Act.put, List.setIfInBounds_toArray, List.set_cons_zero, List.set_cons_succ]
          refine held_take (i := 10) (v := ?_) rfl rfl (by kernel_rfl) (by kernel_rfl) (by kernel_rfl) (fun _ _ _ h => h) (by rfl) hHeld ?_ ?_
          rotate_left
          · rintro wh ⟨z0, z1, z2, z3, z4, z5, z6, z7, z8, z9, z10, z11, z12, z13⟩
            go_simp
            (try with_reducible rfl)
          simp only [Act.put, List.setIfInBounds_toArray, List.set_cons_zero, List.set_cons_succ]
          refine held_take (i := 11) (v := ?_) rfl rfl (by kernel_rfl) (by kernel_rfl) (by kernel_rfl) (fun _ _ _ h => h) (by rfl) hHeld ?_ ?_
          rotate_left
          · rintro wh ⟨z0, z1, z2, z3, z4, z5, z6, z7, z8, z9, z10, z11, z12, z13⟩
            go_simp
            (try with_reducible rfl)
          simp only [Act.put, List.setIfInBounds_toArray, List.set_cons_zero, List.set_cons_succ]
          refine held_take (i := 12) (v := ?_) rfl rfl (by kernel_rfl) (by kernel_rfl) (by kernel_rfl) (fun _ _ _ h => h) (by rfl) hHeld ?_ ?_
          rotate_left
          · rintro wh ⟨z0, z1, z2, z3, z4, z5, z6, z7, z8, z9, z10, z11, z12, z13⟩
            go_simp
            (try with_reducible rfl)
          simp only [Act.put, List.setIfInBounds_toArray, List.set_cons_zero, List.set_cons_succ]
          refine held_call (i := 13) rfl (by kernel_rfl) (by rfl) (fun K hK => ?_)
          (go_simp; go_at_call 34; refine (KLI.out _ hB8).mono ?_; rintro e v9 ⟨rfl, hb9⟩; have hB9 := hB8.trans (hb9.mono hB8.size))
          refine hK.out _ _ ⟨keep_cell q0 hB9 (by omega), keep_cell q1 hB9 (by omega), keep_cell q2 hB9 (by omega), keep_cell q3 hB9 (by omega), keep_cell q4 hB9 (by omega), keep_cell q5 hB9 (by omega), keep_cell t0 hB9 (by omega), keep_cell t1 hB9 (by omega), keep_cell x0 hB9 hbl, keep_cell x1 hB9 hbl, keep_cell x2 hB9 hbl, keep_cell x3 hB9 hbl, keep_cell x4 hB9 hbl, keep_cell x5 hB9 hbl⟩ (fun hHeld => ?_)
          clear hK K
          (try simp only [Act.put, List.setIfInBounds_toArray, List.set_cons_zero, List.set_cons_succ])
          refine held_take (i := 14) (v := ?_) rfl rfl (by kernel_rfl) (by kernel_rfl) (by kernel_rfl) (fun _ _ _ h => h) (by rfl) hHeld ?_ ?_
          rotate_left
          · rintro wh ⟨z0, z1, z2, z3, z4, z5, z6, z7, z8, z9, z10, z11, z12, z13⟩
            go_simp
            (try with_reducible rfl)
          simp only [Act.put, List.setIfInBounds_toArray, List.set_cons_zero, List.set_cons_succ]
          refine held_take (i := 15) (v := ?_) rfl rfl (by kernel_rfl) (by kernel_rfl) (by kernel_rfl) (fun _ _ _ h => h) (by rfl) hHeld ?_ ?_
          rotate_left
          · rintro wh ⟨z0, z1, z2, z3, z4, z5, z6, z7, z8, z9, z10, z11, z12, z13⟩
            go_simp
            (try with_reducible rfl)
          simp only [Act.put, List.setIfInBounds_toArray, List.set_cons_zero, List.set_cons_succ]
          refine wpAnyH_done (by kernel_rfl) ?_ _
          have HB9 := Lib.hid hB9
          have X0 := keep_cell x0 hB9 hbl
          have X1 := keep_cell x1 hB9 hbl
          have X2 := keep_cell x2 hB9 hbl
          have X3 := keep_cell x3 hB9 hbl
          have X4 := keep_cell x4 hB9 hbl
          have X5 := keep_cell x5 hB9 hbl
          clear hd hb8 hb9 hB8 hB9 x0 x1 x2 x3 x4 x5 q0 q1 q2 q3 q4 q5 t0 t1 KRT KLI hHeld
          go_wp2_with fail
          refine (KID.out _ HB9.out).mono ?_
          rintro e wo ⟨rfl, hb10⟩
          have HBO := Lib.hid (HB9.out.trans (hb10.mono HB9.out.size))
          have HBI : Hid (Below W0.heap.size W0 wo) := Lib.hid (HBR.out.trans (HBO.out.mono HBR.out.size))
          have HOWN := Lib.hid (own_later HOW.out HBO.out)
          clear hb10 X0 X1 X2 X3 X4 X5 HB9 KID HOW HBR HBW
          obtain ⟨a6, c6, rfl, hc1, hr1⟩ := RdAt.shape (RdAt.own HOWN.out)
          have HR1 := Lib.hid hr1
          clear hr1
          go_wp2
          go_loopw [10] (fun vk wr => ∃ m : Nat, m ≤ L.length ∧ vk = .int .i64 m ∧ Hid (∀ j (h : j < L.length), m ≤ j → x < L[j]) ∧ wr = wo) (fun vk _ => (intOf vk).toNat)
          case atStart => exact ⟨L.length, Nat.le_refl _, rfl, Lib.hid (fun j h hj => by omega), rfl⟩
          case round =>
            obtain ⟨m, hm, rfl, HHI, hwr⟩ := hrel
            subst hwr
            rcases Nat.eq_zero_or_pos m with rfl | hm0
            · have HINS : Hid (insU x L = L.take 0 ++ [x] ++ L.drop 0) := Lib.hid (by rw [insUzero HRL.out (fun j h => HHI.out j h (Nat.zero_le _))]; simp)
              obtain ⟨wq, rfl⟩ : ∃ z, z = wr := ⟨_, rfl⟩
              have hrd1 : RdAt wq (.slice a6 0 c6) 0 1 ((L.map U).take 0) := ⟨by simp, by
                cases a6 with
                | none => exact .inl ⟨by
                    rcases HOWN.out.2 with ⟨h, _⟩ | ⟨g, cap, cur, h, _⟩
                    · simp only [Value.slice.injEq] at h; rw [h.2.2]
                    · simp at h, rfl⟩
                | some a => exact .inr ⟨a, c6, rfl, Nat.zero_le _, fun h => absurd h (Nat.lt_irrefl _)⟩⟩
              have hrd2 : RdAt wq (.slice a6 L.length c6) (L.length - 0) 1 ((L.map U).drop 0) := RdAt.own HOWN.out
              go_wp2_with fail
              go_region_held_law (fun _ => True) (trivial)
                (first
                  | (refine step_append_rd (by rfl) (.const (.slice none 0 0)) (.tmp 66) _ (by rfl) wq.heap.size 66 i0 (.int .u64 0) 1 8 Try.underlying42 hi hz0 hz1 hz2 rfl (by decide) _ 0 [] (by rfl) (by exact World.ownsRow_nil _ _ _ _) _ 0 ((L.map U).take 0) (by rfl) (by first | exact hrd1.later ((Below.refl wq.heap.size wq).drew) | exact hrd1.later (((Below.refl wq.heap.size wq).drew).alloc (Nat.le_refl _) _)) (fun y hy => uu_cells L y (List.mem_of_mem_take hy)) (by unfold maxLen; omega) (by omega) (by simp) ?_; intro v1 w1 hown1 hgrow1 _; have hb1 : Below wq.heap.size wq w1 := by first | exact ((Below.refl wq.heap.size wq).drew).grown hgrow1 (by simp) (fun m hm => by cases hm) | exact ((((Below.refl wq.heap.size wq).drew).alloc (Nat.le_refl _) _)).grown hgrow1 (by simp) (fun m hm => by cases hm))
                  | (refine step_append_rd (by rfl) (.tmp 67) (.tmp 69) _ (by rfl) wq.heap.size 66 i0 (.int .u64 0) 1 8 Try.underlying42 hi hz0 hz1 hz2 rfl (by decide) _ _ _ (by rfl) (by first | exact hown1 | exact own_later hown1 ((Below.refl _ _).alloc (Nat.le_refl _) _)) _ 1 [U x] (by rfl) (by first | exact rdone_new w1 (U x) 66 | exact RdAt.later (w := wq.drew.alloc (.cells #[U x] 66)) (rdone_new wq.drew (U x) 66) (below_of_grown hgrow1 (fun k hk => by cases hk))) (by simp [Value.oneCell']) (by unfold maxLen; omega) (by omega) (by first | exact hb1.size | exact Nat.le_trans hb1.size (by simp)) ?_; intro v2 w2 hown2 hgrow2 _; have hb2 : Below wq.heap.size wq w2 := by first | exact hb1.grown hgrow2 hb1.size (fun m hm => (hown1.lt m hm).1) | exact (hb1.alloc hb1.size _).grown hgrow2 (Nat.le_trans hb1.size (by simp)) (fun m hm => (hown1.lt m hm).1))
                  | (refine step_append_rd (by rfl) (.tmp 70) (.tmp 73) _ (by rfl) wq.heap.size 66 i0 (.int .u64 0) 1 8 Try.underlying42 hi hz0 hz1 hz2 rfl (by decide) _ _ _ (by rfl) (by exact hown2) _ (L.length - 0) ((L.map U).drop 0) (by rfl) (by exact hrd2.later hb2) (fun y hy => uu_cells L y (List.mem_of_mem_drop hy)) (by unfold maxLen; omega) (by omega) (by exact hb2.size) ?_; intro v3 w3 hown3 hgrow3 _; have hb3 : Below wq.heap.size wq w3 := hb2.grown hgrow3 hb2.size (fun m hm => (hown2.lt m hm).1)))
              all_goals (
                have R : w3.ownsRow W0.heap.size 66 1 v3 (insU x L).length ((insU x L).map U) := ownins hown3 (by omega) HINS.out HBI.out.size
                have RB : Below W0.heap.size W0 w3 := HBI.out.trans (hb3.mono HBI.out.size)
                clear hown1 hown2 hown3 hgrow1 hgrow2 hgrow3 hb1 hb2 hb3
                go_wp2
                go_roundw
                case rel => exact ⟨k + 1, insU x L, by omega, by go_num, Lib.hid HN.out.symm, R, RB⟩
                case measure => (simp [intOf]; try omega))
            · obtain ⟨m, rfl⟩ : ∃ j, m = j + 1 := ⟨m - 1, by omega⟩
              obtain ⟨g, cap, hv, _, hg1⟩ := HOWN.out.form (by omega)
              cases hv
              have hrd : RdAt wr (.slice (some ⟨g, 0, none⟩) L.length c6) L.length 1 (L.map U) := RdAt.own HOWN.out
              obtain ⟨_, _, _, hv, _, _, hcell1⟩ := hrd.some (by omega)
              cases hv
              obtain ⟨y, hye⟩ : ∃ y, L[m] = y := ⟨_, rfl⟩
              have hcy : wr.cell? ⟨g, m, none⟩ = some (.int .u64 y) := by have := hcell1 m _ (by rw [List.getElem?_map, List.getElem?_eq_getElem (by omega), hye]; rfl); simpa using this
              have HYE := Lib.hid hye
              clear hcell1 hye
              by_cases hxy : x < y
              · go_wp2
                go_roundw
                case rel => exact ⟨m, by omega, by go_num, Lib.hid (fun j h hj => by
                  rcases Nat.lt_or_ge m j with h1 | h1
                  · exact HHI.out j h h1
                  · obtain rfl : j = m := by omega
                    rw [HYE.out]; exact hxy), trivial⟩
                case measure => simp [intOf]
              · by_cases hyx : y = x
                · have HINS : Hid (insU x L = L) := Lib.hid (insUthere (k := m) HRL.out (by omega) (by rw [HYE.out]; exact hyx))
                  have hbx : (y != x) = false := by simp [hyx]
                  have hmz : (((m : Int) + 1) == 0) = false := by simp; omega
                  clear hyx
                  go_wp2
                  go_roundw
                  case rel => exact ⟨k + 1, L, by omega, by go_num, Lib.hid (by rw [HN.out, HINS.out]), HOWN.out, HBI.out⟩
                  case measure => (simp [intOf]; try omega)
                · have hbx : (y != x) = true := by simp [hyx]
                  have HINS : Hid (insU x L = L.take (m + 1) ++ [x] ++ L.drop (m + 1)) := Lib.hid (insUmid (k := m) HRL.out (by omega) (fun j h hj => HHI.out j h hj) (by rw [HYE.out]; omega))
                  have hmz : (((m : Int) + 1) == 0) = false := by simp; omega
                  clear hyx
                  obtain ⟨wq, rfl⟩ : ∃ z, z = wr := ⟨_, rfl⟩
                  have hrd1 : RdAt wq (.slice (some ⟨g, 0, none⟩) (m + 1) c6) (m + 1) 1 ((L.map U).take (m + 1)) := hrd.take (m + 1) (by omega) (by omega)
                  have hrd2 : ∀ (a : Option Addr) (n c : Nat), (a = some ⟨g, m + 1, none⟩ ∨ (c6 = m + 1 ∧ a ≠ none)) → n = L.length - (m + 1) → c = c6 - (m + 1) → RdAt wq (.slice a n c) n 1 ((L.map U).drop (m + 1)) := fun a n c ha hm hc =>
                    hrd.drop (m + 1) (by omega) (by omega) a (fun h => by rcases ha with h' | ⟨h', _⟩; exact h'; omega) (by rcases ha with rfl | ⟨_, h'⟩; simp; exact h') n c hm hc
                  clear hrd
                  rcases (show c6 = m + 1 ∨ c6 ≠ m + 1 by omega) with rfl | hck
                  · go_wp2_with fail
                    go_region_held_law (fun _ => True) (trivial)
                      (first
                        | (refine step_append_rd (by rfl) (.const (.slice none 0 0)) (.tmp 66) _ (by rfl) wq.heap.size 66 i0 (.int .u64 0) 1 8 Try.underlying42 hi hz0 hz1 hz2 rfl (by decide) _ 0 [] (by rfl) (by exact World.ownsRow_nil _ _ _ _) _ (m + 1) ((L.map U).take (m + 1)) (by rfl) (by first | exact hrd1.later ((Below.refl wq.heap.size wq).drew) | exact hrd1.later (((Below.refl wq.heap.size wq).drew).alloc (Nat.le_refl _) _)) (fun y hy => uu_cells L y (List.mem_of_mem_take hy)) (by unfold maxLen; omega) (by omega) (by simp) ?_; intro v1 w1 hown1 hgrow1 _; have hb1 : Below wq.heap.size wq w1 := by first | exact ((Below.refl wq.heap.size wq).drew).grown hgrow1 (by simp) (fun m hm => by cases hm) | exact ((((Below.refl wq.heap.size wq).drew).alloc (Nat.le_refl _) _)).grown hgrow1 (by simp) (fun m hm => by cases hm))
                        | (refine step_append_rd (by rfl) (.tmp 67) (.tmp 69) _ (by rfl) wq.heap.size 66 i0 (.int .u64 0) 1 8 Try.underlying42 hi hz0 hz1 hz2 rfl (by decide) _ _ _ (by rfl) (by first | exact hown1 | exact own_later hown1 ((Below.refl _ _).alloc (Nat.le_refl _) _)) _ 1 [U x] (by rfl) (by first | exact rdone_new w1 (U x) 66 | exact RdAt.later (w := wq.drew.alloc (.cells #[U x] 66)) (rdone_new wq.drew (U x) 66) (below_of_grown hgrow1 (fun k hk => by cases hk))) (by simp [Value.oneCell']) (by unfold maxLen; omega) (by omega) (by first | exact hb1.size | exact Nat.le_trans hb1.size (by simp)) ?_; intro v2 w2 hown2 hgrow2 _; have hb2 : Below wq.heap.size wq w2 := by first | exact hb1.grown hgrow2 hb1.size (fun m hm => (hown1.lt m hm).1) | exact (hb1.alloc hb1.size _).grown hgrow2 (Nat.le_trans hb1.size (by simp)) (fun m hm => (hown1.lt m hm).1))
                        | (refine step_append_rd (by rfl) (.tmp 70) (.tmp 73) _ (by rfl) wq.heap.size 66 i0 (.int .u64 0) 1 8 Try.underlying42 hi hz0 hz1 hz2 rfl (by decide) _ _ _ (by rfl) (by exact hown2) _ 0 [] (by rfl) (by exact rdempty _ _ _ _ (by omega)) (fun y hy => by cases hy) (by unfold maxLen; omega) (by omega) (by exact hb2.size) ?_; intro v3 w3 hown3 hgrow3 _; have hb3 : Below wq.heap.size wq w3 := hb2.grown hgrow3 hb2.size (fun m hm => (hown2.lt m hm).1)))
                    all_goals (
                      have R : w3.ownsRow W0.heap.size 66 1 v3 (insU x L).length ((insU x L).map U) := ownins (k := m + 1) (by rw [show L.length - (m + 1) = 0 by omega, List.drop_eq_nil_of_le (by simp; omega)]; exact hown3) (by omega) HINS.out HBI.out.size
                      have RB : Below W0.heap.size W0 w3 := HBI.out.trans (hb3.mono HBI.out.size)
                      clear hown1 hown2 hown3 hgrow1 hgrow2 hgrow3 hb1 hb2 hb3
                      go_wp2
                      go_roundw
                      case rel => exact ⟨k + 1, insU x L, by omega, by go_num, Lib.hid HN.out.symm, R, RB⟩
                      case measure => (simp [intOf]; try omega))
                  · go_wp2_with fail
                    go_region_held_law (fun _ => True) (trivial)
                      (first
                        | (refine step_append_rd (by rfl) (.const (.slice none 0 0)) (.tmp 66) _ (by rfl) wq.heap.size 66 i0 (.int .u64 0) 1 8 Try.underlying42 hi hz0 hz1 hz2 rfl (by decide) _ 0 [] (by rfl) (by exact World.ownsRow_nil _ _ _ _) _ (m + 1) ((L.map U).take (m + 1)) (by rfl) (by first | exact hrd1.later ((Below.refl wq.heap.size wq).drew) | exact hrd1.later (((Below.refl wq.heap.size wq).drew).alloc (Nat.le_refl _) _)) (fun y hy => uu_cells L y (List.mem_of_mem_take hy)) (by unfold maxLen; omega) (by omega) (by simp) ?_; intro v1 w1 hown1 hgrow1 _; have hb1 : Below wq.heap.size wq w1 := by first | exact ((Below.refl wq.heap.size wq).drew).grown hgrow1 (by simp) (fun m hm => by cases hm) | exact ((((Below.refl wq.heap.size wq).drew).alloc (Nat.le_refl _) _)).grown hgrow1 (by simp) (fun m hm => by cases hm))
                        | (refine step_append_rd (by rfl) (.tmp 67) (.tmp 69) _ (by rfl) wq.heap.size 66 i0 (.int .u64 0) 1 8 Try.underlying42 hi hz0 hz1 hz2 rfl (by decide) _ _ _ (by rfl) (by first | exact hown1 | exact own_later hown1 ((Below.refl _ _).alloc (Nat.le_refl _) _)) _ 1 [U x] (by rfl) (by first | exact rdone_new w1 (U x) 66 | exact RdAt.later (w := wq.drew.alloc (.cells #[U x] 66)) (rdone_new wq.drew (U x) 66) (below_of_grown hgrow1 (fun k hk => by cases hk))) (by simp [Value.oneCell']) (by unfold maxLen; omega) (by omega) (by first | exact hb1.size | exact Nat.le_trans hb1.size (by simp)) ?_; intro v2 w2 hown2 hgrow2 _; have hb2 : Below wq.heap.size wq w2 := by first | exact hb1.grown hgrow2 hb1.size (fun m hm => (hown1.lt m hm).1) | exact (hb1.alloc hb1.size _).grown hgrow2 (Nat.le_trans hb1.size (by simp)) (fun m hm => (hown1.lt m hm).1))
                        | (refine step_append_rd (by rfl) (.tmp 70) (.tmp 73) _ (by rfl) wq.heap.size 66 i0 (.int .u64 0) 1 8 Try.underlying42 hi hz0 hz1 hz2 rfl (by decide) _ _ _ (by rfl) (by exact hown2) _ (L.length - (m + 1)) ((L.map U).drop (m + 1)) (by rfl) (by exact (hrd2 (some ⟨g, m + 1, none⟩) _ _ (.inl rfl) (by first | rfl | omega) (by first | rfl | omega)).later hb2) (fun y hy => uu_cells L y (List.mem_of_mem_drop hy)) (by unfold maxLen; omega) (by omega) (by exact hb2.size) ?_; intro v3 w3 hown3 hgrow3 _; have hb3 : Below wq.heap.size wq w3 := hb2.grown hgrow3 hb2.size (fun m hm => (hown2.lt m hm).1)))
                    all_goals (
                      have R : w3.ownsRow W0.heap.size 66 1 v3 (insU x L).length ((insU x L).map U) := ownins hown3 (by omega) HINS.out HBI.out.size
                      have RB : Below W0.heap.size W0 w3 := HBI.out.trans (hb3.mono HBI.out.size)
                      clear hown1 hown2 hown3 hgrow1 hgrow2 hgrow3 hb1 hb2 hb3
                      go_wp2
                      go_roundw
                      case rel => exact ⟨k + 1, insU x L, by omega, by go_num, Lib.hid HN.out.symm, R, RB⟩
                      case measure => (simp [intOf]; try omega))
    · obtain rfl : k = l.length := by omega
      have R : UsAt wr u7 (setL (atIds rs (l.map (·.1)) (tl, tc))) := by
        have h := HL.out
        rw [List.take_of_length_le (by simp)] at h
        unfold UsAt
        rw [← h]
        exact RdAt.own hown
      clear hown HL HRL q0 q1 q2 q3 q4 q5 t0 t1
      go_wp2
      go_ret
      exact ⟨_, rfl, R, HBW.out⟩
end Go.Proofs.Ytipnhpfpppblhaa

/- What alert.Apart hands back: looked up; and what it says, plainly. -/
namespace Go.Proofs.Ytipnhpfpppblhaa
open Go.RowKit Go.Maps
theorem DOT_tidy (R : List Out) : Tidy (DO R) := by
  induction R with
  | nil => exact tidy_empty
  | cons o R ih => exact ih.put (kL_key _) _
theorem DOT_at {R : List Out} (h : ∀ o ∈ R, wfL o.x) (hn : R.Pairwise (fun a b => a.x ≠ b.x)) {o : Out} (ho : o ∈ R) (z : DataW Unit) : (DO R).atKey (kL o.x) z = codeO o := by
  induction R with
  | nil => cases ho
  | cons f R ih =>
    have ih := ih (fun g hg => h g (List.mem_cons_of_mem _ hg)) (List.pairwise_cons.1 hn).2
    rcases List.mem_cons.1 ho with rfl | he'
    · rw [DO, atKey_put_same (DOT_tidy R).isMap (kL_key _)]
    · have hne := (List.pairwise_cons.1 hn).1 o he'
      rw [DO, atKey_put_other (fun h' => hne (kL_inj (h f List.mem_cons_self) (h o ho) h'.symm)), ih he']
def mk3 (c : Nat × Nat × Nat × Nat) : Value := .slice (some ⟨c.1, c.2.1, none⟩) c.2.2.1 c.2.2.2
theorem R3_mk {v : Value} {y : DataW Unit × List MemPlace} (h : R3 v = some y) : ∃ c, v = mk3 c := by
  unfold R3 at h
  split at h
  · exact ⟨(_, _, _, _), rfl⟩
  · cases h
theorem R3_is {v : Value} {o : Out} {ps : List MemPlace} (h : R3 v = some (codeO o, ps)) : v = o.v := by
  unfold R3 at h
  split at h
  · simp only [codeO, Option.some.injEq, Prod.mk.injEq, DataW.agg.injEq, List.cons.injEq, DataW.lit.injEq, Lit.int.injEq, true_and, and_true] at h
    obtain ⟨⟨h1, h2, h3, h4⟩, _⟩ := h
    unfold Out.v
    simp only [Value.slice.injEq, Option.some.injEq, Addr.mk.injEq, and_true]
    omega
  · cases h
set_option maxRecDepth 100000 in
theorem look_out {w : World} {mo n : Nat} {R : List Out} (h : w.ownsMap Try.prog 34 R3 mo n (DO R)) (hw : ∀ o ∈ R, wfL o.x) (hn : R.Pairwise (fun a b => a.x ≠ b.x)) {o : Out} (ho : o ∈ R) :
    (Instr.lookup 40 (.map (some mo)) (LabP o.x) false).run Try.prog w = .ok o.v w := by
  obtain ⟨es, clock, hb, F, _, hD⟩ := h
  rcases Maps.fit_look false lawL Try.underlying40 (Try.zeroValue42 w) hb F (keyOf_lab (hw o ho)) with ⟨hrun, _, hat⟩ | ⟨e0, y, _, _, hrun, hRv, hat, _⟩
  · have h1 := hat .nil
    rw [← hD, DOT_at hw hn ho] at h1
    cases h1
  · have h1 := hat .nil
    rw [← hD, DOT_at hw hn ho] at h1
    obtain ⟨y1, y2⟩ := y
    dsimp only at h1
    subst h1
    rw [R3_is hRv] at hrun
    exact hrun
/-! ### plainly -/
theorem mem_puts {rs : List Nmd} {al : List Al} {x : Int × Nat} {i : Int} : (x, i) ∈ putsL rs al ↔ ∃ a ∈ al, rightA a = true ∧ liesL rs a.fl (a.lv, a.c) x = true ∧ i = idA a := by
  unfold putsL
  rw [List.mem_flatMap]
  constructor
  · rintro ⟨a, ha, h⟩
    unfold putsA at h
    split at h
    · rename_i hr
      refine ⟨a, ha, hr, ?_⟩
      rcases List.mem_cons.1 h with h | h
      · simp only [Prod.mk.injEq] at h
        exact ⟨lies_self h.1.symm, h.2⟩
      · obtain ⟨f, hf, he⟩ := List.mem_map.1 h
        simp only [Prod.mk.injEq] at he
        obtain ⟨k, hk, rfl⟩ := List.mem_iff_getElem.1 hf
        exact ⟨lies_at hk he.1, he.2.symm⟩
    · cases h
  · rintro ⟨a, ha, hr, hl, rfl⟩
    refine ⟨a, ha, ?_⟩
    unfold putsA
    rw [if_pos hr]
    unfold liesL at hl
    rw [Bool.or_eq_true, decide_eq_true_eq, List.any_eq_true] at hl
    rcases hl with hl | ⟨f, hf, hl⟩
    · rw [hl]; exact List.mem_cons_self
    · exact List.mem_cons_of_mem _ (List.mem_map.2 ⟨f, hf, by rw [of_decide_eq_true hl]⟩)
theorem mem_atIds {rs : List Nmd} {al : List Al} {x : Int × Nat} {i : Int} : i ∈ atIds rs al x ↔ (x, i) ∈ putsL rs al := by
  rw [mem_puts]
  unfold atIds
  rw [List.mem_map]
  constructor
  · rintro ⟨a, ha, rfl⟩
    obtain ⟨h1, h2⟩ := List.mem_filter.1 ha
    rw [Bool.and_eq_true] at h2
    exact ⟨a, h1, h2.1, h2.2, rfl⟩
  · rintro ⟨a, ha, h1, h2, rfl⟩
    exact ⟨a, List.mem_filter.2 ⟨ha, by rw [h1, h2]; rfl⟩, rfl⟩
theorem ids_at {rs : List Nmd} {al : List Al} {o : Out} (hs : o.ids.Pairwise (· < ·)) (hm : ∀ i, i ∈ o.ids ↔ (o.x, i) ∈ putsL rs al) : o.ids = setL (atIds rs al o.x) :=
  rising_eq hs (rising_setL _) (fun z => by rw [mem_setL, mem_atIds, hm])
end Go.Proofs.Ytipnhpfpppblhaa

/- The first so many alerts, as both have them: what is carried. -/
namespace Go.Proofs.Ytipnhpfpppblhaa
open Go.RowKit
def cutA (x : Al) : Al := { x with fl := x.fl.take 12 }
theorem cutA_fit {x : Al} (h : AlFit x) : AlFit (cutA x) := ⟨h.src, fun f hf => h.fl f (List.mem_of_mem_take hf), Nat.le_trans (List.length_take_le' _ _) h.len, h.c⟩
theorem alC_snoc (l : List (Al × Value)) (x : Al) (v : Value) : alCells (l ++ [(x, v)]) = alCells l ++ alC x v := by
  induction l with
  | nil => simp [alCells]
  | cons p l ih => simp [alCells, ih]
theorem info_al : (Try.prog.info? 36).map (fun i => (i.zero, i.size, i.bytes)) = some (some (.agg #[.string ⟨#[]⟩, .slice none 0 0, .int .i64 0, .int .u32 0, .int .i64 0, .int .i64 0]), 6, 72) := by kernel_rfl
theorem info_ral : (Try.prog.info? 38).map (fun i => (i.zero, i.size, i.bytes)) = some (some (.agg #[.string ⟨#[]⟩, .slice none 0 0, .int .i64 0, .int .u32 0, .int .i64 0, .int .i64 0]), 6, 72) := by kernel_rfl
structure FewAt (w : World) (l0 : List (Al × Value)) (vo vd : Value) (k : Nat) (wr : World) : Prop where
  b : Below w.heap.size w wr
  mem : ∃ l1 : List (Al × Value), l1.length = k ∧ wr.ownsRow w.heap.size 36 6 vo k (alCells l1) ∧ wr.ownsRow w.heap.size 38 6 vd k (alCells l1) ∧ (vo.ownBlock = none ∨ vo.ownBlock ≠ vd.ownBlock) ∧
    l1.map (·.1) = (l0.take k).map (fun p => cutA p.1) ∧ ∀ p ∈ l1, FldsAt w p.2 p.1.fl ∧ AlFit p.1 ∧ p.2.oneCell' = true
theorem row6 (W : World) (a b c d e f : Value) (t : TypeId) : RdAt (W.alloc (.cells #[a, b, c, d, e, f] t)) (.slice (some ⟨W.heap.size, 0, none⟩) 1 1) 1 6 [a, b, c, d, e, f] :=
  RdAt.mk rfl (Nat.le_refl _) (by rw [World.size_alloc]; omega) (fun j x hj => by
    have hc : (W.alloc (.cells #[a, b, c, d, e, f] t)).cell? ⟨W.heap.size, j, none⟩ = _ := World.cell?_alloc_at _ _ _ _ rfl
    rw [Nat.zero_add, hc, ← Array.getElem?_toList]
    exact hj)
theorem alc6 (W : World) (a b c d e f : Value) (t : TypeId) : C6 W.heap.size a b c d e f (W.alloc (.cells #[a, b, c, d, e, f] t)) := by
  have hc : ∀ (i : Nat), (W.alloc (.cells #[a, b, c, d, e, f] t)).cell? ⟨W.heap.size, i, none⟩ = _ := fun i => World.cell?_alloc_at _ _ _ _ rfl
  exact ⟨hc 0, hc 1, hc 2, hc 3, hc 4, hc 5⟩
theorem C6.grown {p : Nat} {a b c d e f : Value} {W W' : World} {row : Option Nat} (h : C6 p a b c d e f W) (hg : W.grownBy W' row) (hne : some p ≠ row) : C6 p a b c d e f W' := by
  obtain ⟨h0, h1, h2, h3, h4, h5⟩ := h
  exact ⟨hg.cell h0 hne, hg.cell h1 hne, hg.cell h2 hne, hg.cell h3 hne, hg.cell h4 hne, hg.cell h5 hne⟩
theorem all6 {a b c d e f : Value} (ha : a.oneCell' = true) (hb : b.oneCell' = true) (hc : c.oneCell' = true) (hd : d.oneCell' = true) (he : e.oneCell' = true) (hf : f.oneCell' = true) : ∀ y ∈ [a, b, c, d, e, f], y.oneCell' = true := by
  intro y hy
  simp only [List.mem_cons, List.mem_nil_iff, or_false] at hy
  rcases hy with rfl | rfl | rfl | rfl | rfl | rfl <;> assumption
end Go.Proofs.Ytipnhpfpppblhaa

/- pattern's step: a contract. -/
namespace Go.Proofs.Ytipnhpfpppblhaa
open Go.RowKit
/-! plain: one byte on -/
def goB (x : St) (c : Nat) : Bool := match x.set with
  | some f => f c
  | none => false
end Go.Proofs.Ytipnhpfpppblhaa

/- pattern's Fits, of a pattern and of a text: contracts. -/
namespace Go.Proofs.Ytipnhpfpppblhaa
open Go.RowKit
/-! plain: the states behind some bytes -/
inductive Rn (sts : List St) (st : Nat) : List Nat → Nat → Prop
  | start {k : Nat} : FR sts st k → Rn sts st [] k
  | byte {cs : List Nat} {c j k : Nat} {x : St} : Rn sts st cs j → sts[j]? = some x → goB x c = true → FR sts x.next k → Rn sts st (cs ++ [c]) k
end Go.Proofs.Ytipnhpfpppblhaa

/- Several parts in one: Matchers: what lies in memory; match.Fine, Value, is, not: contracts. slices.IndexFunc and ContainsFunc at matchers and at fields, whatever the closure: contracts; match.Value. -/
namespace Go.Proofs.Ytipnhpfpppblhaa
open Go.RowKit
structure Mt where
  nm : ByteArray
  op : Int
  val : ByteArray
instance : Inhabited Mt := ⟨⟨⟨#[]⟩, 0, ⟨#[]⟩⟩⟩
def mtC (m : Mt) : List Value := [.string m.nm, .int .i64 m.op, .string m.val]
def mtCells : List Mt → List Value
  | [] => []
  | m :: l => .string m.nm :: .int .i64 m.op :: .string m.val :: mtCells l
def MtsAt (w : World) (v : Value) (l : List Mt) : Prop := RdAt w v l.length 3 (mtCells l)
theorem MtsAt.later {w w' : World} {v : Value} {l : List Mt} (h : MtsAt w v l) (hb : Below w.heap.size w w') : MtsAt w' v l := RdAt.later h hb
def MtFit (m : Mt) : Prop := m.nm.size ≤ maxLen ∧ m.val.size ≤ maxLen
def MtsFit (l : List Mt) : Prop := ∀ m ∈ l, MtFit m
end Go.Proofs.Ytipnhpfpppblhaa
namespace Go.Proofs.Ytipnhpfpppblhaa
open Go.RowKit
abbrev MtF := { m : Mt // MtFit m }
instance : Inhabited MtF := ⟨⟨⟨⟨#[]⟩, 0, ⟨#[]⟩⟩, by unfold MtFit maxLen; decide⟩⟩
/-! fields -/
end Go.Proofs.Ytipnhpfpppblhaa

/- Slices of strings that are read: what lies in memory, said plainly. -/
namespace Go.Proofs.Ytipnhpfpppblhaa
open Go.RowKit
def StrsAt (w : World) (v : Value) (ws : List ByteArray) : Prop := RdAt w v ws.length 1 (ws.map Value.string) ∧ ws.length ≤ 1073741824
theorem StrsAt.nil (w : World) : StrsAt w (.slice none 0 0) [] := ⟨RdAt.nil w 1, Nat.zero_le _⟩
theorem StrsAt.later {w w' : World} {v : Value} {ws : List ByteArray} (h : StrsAt w v ws) (hb : Below w.heap.size w w') : StrsAt w' v ws := ⟨h.1.later hb, h.2⟩
theorem StrsAt.own {w : World} {base : Nat} {e : TypeId} {v : Value} {ws : List ByteArray} (h : w.ownsRow base e 1 v ws.length (ws.map Value.string)) (hm : ws.length ≤ 1073741824) : StrsAt w v ws := ⟨RdAt.own h, hm⟩
theorem StrsAt.shape {w : World} {v : Value} {ws : List ByteArray} (h : StrsAt w v ws) : ∃ a c, v = .slice a ws.length c ∧ ws.length ≤ c ∧
    (ws ≠ [] → ∃ b o, a = some ⟨b, o, none⟩ ∧ b < w.heap.size ∧ ∀ (j : Nat) x, ws[j]? = some x → w.cell? ⟨b, o + j, none⟩ = some (.string x)) := by
  obtain ⟨a, c, hv, hc, hr⟩ := h.1.shape
  refine ⟨a, c, hv, hc, fun hne => ?_⟩
  obtain ⟨b, o, ha, hlt, hcell⟩ := hr (List.length_pos_iff.2 hne)
  exact ⟨b, o, ha, hlt, fun j x hx => hcell j _ (by rw [List.getElem?_map, hx]; rfl)⟩
end Go.Proofs.Ytipnhpfpppblhaa

/- Policies: their data, in memory and said plainly. -/
namespace Go.Proofs.Ytipnhpfpppblhaa
open Go.RowKit
/-! ### rows of elements of k cells -/
def cellsG {α : Type} (f : α → List Value) : List α → List Value
  | [] => []
  | x :: l => f x ++ cellsG f l
section
variable {α : Type} {f : α → List Value} {k : Nat}
theorem cellsG_len (hk : ∀ x, (f x).length = k) (l : List α) : (cellsG f l).length = l.length * k := by
  induction l with
  | nil => simp [cellsG]
  | cons x l ih => simp only [cellsG, List.length_append, hk, ih, List.length_cons]; rw [Nat.succ_mul]; omega
theorem cellsG_at (hk : ∀ x, (f x).length = k) : ∀ (l : List α) (j : Nat) (h : j < l.length) (i : Nat) (v : Value), (f l[j])[i]? = some v → (cellsG f l)[j * k + i]? = some v
  | x :: l, 0, _, i, v, hi => by
    have hlt := (List.getElem?_eq_some_iff.1 hi).1
    simp only [cellsG, Nat.zero_mul, Nat.zero_add]
    rw [List.getElem?_append_left (by simpa using hlt)]
    simpa using hi
  | x :: l, j + 1, h, i, v, hi => by
    simp only [cellsG]
    rw [List.getElem?_append_right (by rw [hk, Nat.succ_mul]; omega), hk]
    rw [show (j + 1) * k + i - k = j * k + i by rw [Nat.succ_mul]; omega]
    exact cellsG_at hk l j (by simpa using h) i v (by simpa using hi)
theorem cellsG_take (hk : ∀ x, (f x).length = k) (l : List α) (i : Nat) : cellsG f (l.take i) = (cellsG f l).take (i * k) := by
  induction l generalizing i with
  | nil => simp [cellsG]
  | cons x l ih =>
    cases i with
    | zero => simp [cellsG]
    | succ i =>
      simp only [List.take_succ_cons, cellsG]
      rw [ih, Nat.succ_mul, show i * k + k = (f x).length + i * k by rw [hk]; omega, List.take_length_add_append]
theorem rdG_take {w : World} {a : Option Addr} {c : Nat} {l : List α} (hk : ∀ x, (f x).length = k) (h : RdAt w (.slice a l.length c) l.length k (cellsG f l)) (i : Nat) : RdAt w (.slice a (min l.length i) c) (l.take i).length k (cellsG f (l.take i)) := by
  have hl : (l.take i).length = min l.length i := by rw [List.length_take, Nat.min_comm]
  rw [hl, cellsG_take hk]
  obtain ⟨h1, h2⟩ := h
  refine ⟨by rw [List.length_take, cellsG_len hk]; rcases Nat.le_total l.length i with h | h
             · rw [Nat.min_eq_left h]; exact Nat.min_eq_right (Nat.mul_le_mul_right k h)
             · rw [Nat.min_eq_right h]; exact Nat.min_eq_left (Nat.mul_le_mul_right k h), ?_⟩
  rcases h2 with ⟨h3, h0⟩ | ⟨ad, c', h3, hc, hr⟩
  · simp only [Value.slice.injEq] at h3
    obtain ⟨rfl, h4, rfl⟩ := h3
    exact .inl ⟨by rw [show min l.length i = 0 by omega], by omega⟩
  · simp only [Value.slice.injEq] at h3
    obtain ⟨rfl, _, rfl⟩ := h3
    refine .inr ⟨ad, c, rfl, by omega, fun h0 => ?_⟩
    obtain ⟨b, o, rfl, hlt, hcell⟩ := hr (by omega)
    refine ⟨b, o, rfl, hlt, fun j x hj => hcell j x ?_⟩
    have hjl := (List.getElem?_eq_some_iff.1 hj).1
    rw [List.length_take] at hjl
    rwa [List.getElem?_take_of_lt (by omega)] at hj
end
/-! ### routes, inhibits, policies: with the values of the slices that lie in them -/
structure PRt where
  rcv : ByteArray
  bys : List ByteArray
  wait : Int
  every : Int
  again : Int
  whn : List Mt
  bv : Value
  wv : Value
structure PIh where
  bys : List ByteArray
  lv : Int
  c : Nat
  frm : List Mt
  whn : List Mt
  bv : Value
  fv : Value
  wv : Value
def rtC (r : PRt) : List Value := [.string r.rcv, r.bv, .int .i64 r.wait, .int .i64 r.every, .int .i64 r.again, r.wv]
def ihC (x : PIh) : List Value := [x.bv, .int .i64 x.lv, .int .u32 x.c, x.fv, x.wv]
theorem rtC_len (r : PRt) : (rtC r).length = 6 := rfl
theorem ihC_len (x : PIh) : (ihC x).length = 5 := rfl
def StrsG (w : World) (v : Value) (ws : List ByteArray) : Prop := RdAt w v ws.length 1 (ws.map Value.string)
def StrsFit (ws : List ByteArray) : Prop := ws.length ≤ maxLen ∧ ∀ x ∈ ws, x.size ≤ maxLen
structure RtIn (w : World) (r : PRt) : Prop where
  b : StrsG w r.bv r.bys
  m : MtsAt w r.wv r.whn
structure IhIn (w : World) (x : PIh) : Prop where
  b : StrsG w x.bv x.bys
  f : MtsAt w x.fv x.frm
  m : MtsAt w x.wv x.whn
structure RtFit (r : PRt) : Prop where
  rcv : r.rcv.size ≤ maxLen
  bys : StrsFit r.bys
  whn : MtsFit r.whn
  len : r.whn.length ≤ maxLen
structure IhFit (x : PIh) : Prop where
  bys : StrsFit x.bys
  c : x.c < 4294967296
  frm : MtsFit x.frm
  whn : MtsFit x.whn
  lf : x.frm.length ≤ maxLen
  lw : x.whn.length ≤ maxLen
def RtsAt (w : World) (v : Value) (l : List PRt) : Prop := RdAt w v l.length 6 (cellsG rtC l) ∧ ∀ r ∈ l, RtIn w r
def IhsAt (w : World) (v : Value) (l : List PIh) : Prop := RdAt w v l.length 5 (cellsG ihC l) ∧ ∀ x ∈ l, IhIn w x
theorem RtIn.later {w w' : World} {r : PRt} (h : RtIn w r) (hb : Below w.heap.size w w') : RtIn w' r := ⟨RdAt.later h.b hb, h.m.later hb⟩
theorem IhIn.later {w w' : World} {x : PIh} (h : IhIn w x) (hb : Below w.heap.size w w') : IhIn w' x := ⟨RdAt.later h.b hb, h.f.later hb, h.m.later hb⟩
theorem RtsAt.later {w w' : World} {v : Value} {l : List PRt} (h : RtsAt w v l) (hb : Below w.heap.size w w') : RtsAt w' v l := ⟨h.1.later hb, fun r hr => (h.2 r hr).later hb⟩
theorem IhsAt.later {w w' : World} {v : Value} {l : List PIh} (h : IhsAt w v l) (hb : Below w.heap.size w w') : IhsAt w' v l := ⟨h.1.later hb, fun r hr => (h.2 r hr).later hb⟩
def NmdWide (l : List Nmd) : Prop := l.length ≤ maxLen ∧ NmdFit l ∧ ∀ x ∈ l, x.1.size ≤ maxLen
structure PD where
  so : List Nmd
  re : List Nmd
  pe : List Nmd
  ra : List Nmd
  ro : List PRt
  ih : List PIh
structure PV where
  v0 : Value
  v1 : Value
  v2 : Value
  v3 : Value
  v4 : Value
  v5 : Value
abbrev PV.v (x : PV) : Value := .agg #[x.v0, x.v1, x.v2, x.v3, x.v4, x.v5]
structure PolAt (w : World) (v : PV) (p : PD) : Prop where
  h0 : NmdsAt w v.v0 p.so
  h1 : NmdsAt w v.v1 p.re
  h2 : NmdsAt w v.v2 p.pe
  h3 : NmdsAt w v.v3 p.ra
  h4 : RtsAt w v.v4 p.ro
  h5 : IhsAt w v.v5 p.ih
structure PolFitD (p : PD) : Prop where
  h0 : NmdWide p.so
  h1 : NmdWide p.re
  h2 : NmdWide p.pe
  h3 : NmdWide p.ra
  l4 : p.ro.length ≤ maxLen
  h4 : ∀ r ∈ p.ro, RtFit r
  l5 : p.ih.length ≤ maxLen
  h5 : ∀ x ∈ p.ih, IhFit x
theorem PolAt.later {w w' : World} {v : PV} {p : PD} (h : PolAt w v p) (hb : Below w.heap.size w w') : PolAt w' v p :=
  ⟨h.h0.later hb, h.h1.later hb, h.h2.later hb, h.h3.later hb, h.h4.later hb, h.h5.later hb⟩
/-! ### which policies may be -/
end Go.Proofs.Ytipnhpfpppblhaa

/- The arguments of chapter 09's laws: alerts, labels, numbers, policies. -/
namespace Go.Proofs.Ytipnhpfpppblhaa
open Go.RowKit Go.WideShapes Go.ChangeShapes Go.Deep
theorem cell_ltA {w : World} {a : Addr} {v : Value} (h : w.cell? a = some v) : a.block < w.heap.size := by
  rcases Nat.lt_or_ge a.block w.heap.size with h' | h'
  · exact h'
  · simp [World.cell?, Array.getElem?_eq_none h'] at h
section
variable {H : Type} {enc : TypeId × Value → H} {P : Program} {w : World} {base : Nat} {spare : Nat → Bool} {held : Bool}
theorem open_slice_structs {t e : TypeId} {fs : Array Field} {fuel : Nat} {cs : List Value} {x : DataW H × List MemPlace} (ht : P.underlying t = some (.slice e)) (he : P.underlying e = some (.struct fs))
    (h : DataW.trod enc P w base spare held fuel t cs = some x) :
    cs = [.slice none 0 0] ∨
    ∃ (a : Addr) (len cap : Nat), cs = [.slice (some a) len cap] ∧ len ≤ cap ∧ cap ≤ maxLen ∧
      ∀ i, i < len → ∃ (es : List Value) (n : Nat), es.length = P.cellsOf e ∧ (∀ j, j < P.cellsOf e → w.cell? (a.add (i * P.cellsOf e + j)) = es[j]?) ∧
        ∀ (j : Nat) (f : Field), fs[j]? = some f → ∃ y, DataW.trod enc P w base spare held n f.type ((es.drop f.offset).take (P.cellsOf f.type)) = some y := by
  rcases open_slice ht h with ⟨h0, _⟩ | ⟨a, len, cap, m, n, D, Pl, hcs, hb, hl, hm, hmm, hx, hi⟩
  · exact .inl h0
  · refine .inr ⟨a, len, cap, hcs, hl, hm, fun i hil => ?_⟩
    obtain ⟨cs', hc, ht'⟩ := hi i (by rw [hmm]; split <;> omega)
    obtain ⟨ys, n', hn', hy, hlen, hyl, hf⟩ := DataW.trod_struct he ht'
    obtain ⟨_, hcl, hat⟩ := World.cells?_some hc
    refine ⟨cs', n', by omega, fun j hj => ?_, fun j f hj => ?_⟩
    · rw [← Go.Deep.add_add]; exact hat j hj
    · have hjl : j < fs.size := (Array.getElem?_eq_some_iff.1 hj).1
      have h1 := hf j f hj
      exact ⟨_, h1.trans (List.getElem?_eq_getElem (by omega))⟩
end
def ArgFlds (w : World) (v : Value) (fl : List Fld) : Prop := FldsAt w v fl ∧ fl.length ≤ maxLen ∧ FldsFit fl
theorem add_off {b o j : Nat} : (⟨b, o, none⟩ : Addr).add j = ⟨b, o + j, none⟩ := Go.WideShapes.add_plain ..
set_option maxRecDepth 100000 in
theorem flds_of_trod {H : Type} {enc : TypeId × Value → H} {W : World} {n : Nat} {v : Value} {x : DataW H × List MemPlace} (h : DataW.trod enc Try.prog W 0 (fun _ => true) true n 31 [v] = some x) : ∃ fl, ArgFlds W v fl := by
  have hC : Try.prog.cellsOf 48 = 2 := by kernel_rfl
  have hcs1 : Try.prog.cellsOf 9 = 1 := by kernel_rfl
  rcases open_slice_structs Try.underlying31 Try.underlying48 h with hcs | ⟨a, len, cap, hcs, hl, hm, hf⟩
  · cases hcs
    exact ⟨[], RdAt.nil W 2, Nat.zero_le _, fun _ h => by cases h⟩
  · cases hcs
    rw [hC] at hf
    have hone : ∀ i, i < len → ∃ s : Fld, W.cell? (a.add (i * 2)) = some (.string s.1) ∧ W.cell? (a.add (i * 2 + 1)) = some (.string s.2) ∧ s.1.size ≤ maxLen ∧ s.2.size ≤ maxLen := by
      intro i hi
      obtain ⟨es, n, hlen, hat, hfs⟩ := hf i hi
      match es, hlen with
      | [e0, e1], _ =>
        obtain ⟨y0, t0⟩ := hfs 0 _ rfl
        obtain ⟨y1, t1⟩ := hfs 1 _ rfl
        obtain ⟨s0, q0, _, z0⟩ := DataW.trod_string Try.underlying9 t0
        obtain ⟨s1, q1, _, z1⟩ := DataW.trod_string Try.underlying9 t1
        simp [hcs1] at q0 q1
        subst q0 q1
        exact ⟨(s0, s1), hat 0 (by omega), hat 1 (by omega), z0, z1⟩
    have hg : ∃ g : Nat → Fld, ∀ i, i < len → W.cell? (a.add (i * 2)) = some (.string (g i).1) ∧ W.cell? (a.add (i * 2 + 1)) = some (.string (g i).2) ∧ (g i).1.size ≤ maxLen ∧ (g i).2.size ≤ maxLen :=
      ⟨fun i => if h : i < len then Classical.choose (hone i h) else default, fun i h => by have := Classical.choose_spec (hone i h); simpa only [dif_pos h] using this⟩
    obtain ⟨g, hg⟩ := hg
    have hgl : ((List.range len).map g).length = len := by simp
    refine ⟨(List.range len).map g, ⟨fldCells_len _, .inr ⟨a, cap, by rw [hgl], by omega, fun hn => ?_⟩⟩, by rw [hgl]; omega, fun s hs => ?_⟩
    · rw [hgl] at hn
      obtain ⟨b, off, spot⟩ := a
      have h0 := (hg 0 hn).1
      have hspot : spot = none := by simpa [Addr.add] using World.cell?_spot h0
      subst hspot
      refine ⟨b, off, rfl, by have := cell_ltA h0; simpa [Addr.add] using this, fun j x hj => ?_⟩
      have hjl := (List.getElem?_eq_some_iff.1 hj).1
      rw [fldCells_len, hgl] at hjl
      obtain ⟨m, r, hr2, rfl⟩ : ∃ m r, r < 2 ∧ j = m * 2 + r := ⟨j / 2, j % 2, Nat.mod_lt _ (by decide), by omega⟩
      obtain ⟨q0, q1⟩ := fldCells_at ((List.range len).map g) m (by rw [hgl]; omega)
      obtain ⟨h1, h2, _⟩ := hg m (by omega)
      simp only [List.getElem_map, List.getElem_range] at q0 q1
      rw [add_off] at h1 h2
      match r, hr2 with
      | 0, _ => rw [Nat.add_zero] at hj ⊢; rw [q0] at hj; rw [← Option.some.inj hj]; exact h1
      | 1, _ => rw [q1] at hj; rw [← Option.some.inj hj]; exact h2
    · obtain ⟨i, hi, rfl⟩ := List.mem_map.1 hs
      exact (hg i (List.mem_range.1 hi)).2.2
theorem lit_u32 {c : Int} (h : (Lit.int .u32 c).wf = true) : ∃ n : Nat, c = n ∧ n < 4294967296 := by
  have : 0 ≤ c ∧ c ≤ 4294967295 := by
    simp [Lit.wf, IntKind.min, IntKind.max, IntKind.signed, IntKind.bits] at h; omega
  exact ⟨c.toNat, by omega, by omega⟩
theorem lab_of_trod {H : Type} {enc : TypeId × Value → H} {W : World} {n : Nat} {c0 c1 : Value} {x : DataW H × List MemPlace} (h : DataW.trod enc Try.prog W 0 (fun _ => true) true n 34 [c0, c1] = some x) : ∃ (l : Int) (c : Nat), c0 = .int .i64 l ∧ c1 = .int .u32 c ∧ c < 4294967296 := by
  have hci : Try.prog.cellsOf 3 = 1 := by kernel_rfl
  have hcu : Try.prog.cellsOf 32 = 1 := by kernel_rfl
  obtain ⟨ys, n', hn', hy, hlen, hyl, hf⟩ := DataW.trod_struct Try.underlying34 h
  have t0 := hf 0 _ rfl
  have t1 := hf 1 _ rfl
  match ys, hyl with
  | [y0, y1], _ =>
    obtain ⟨k0, q0, _, _⟩ := DataW.trod_int Try.underlying3 t0
    obtain ⟨k1, q1, _, w1⟩ := DataW.trod_int Try.underlying32 t1
    simp [hci] at q0
    simp [hcu] at q1
    subst q0 q1
    obtain ⟨m, rfl, hm⟩ := lit_u32 w1
    exact ⟨k0, m, rfl, rfl, hm⟩
end Go.Proofs.Ytipnhpfpppblhaa

/- Arguments: policies, whole; alerts; labels. -/
namespace Go.Proofs.Ytipnhpfpppblhaa
open Go.RowKit Go.WideShapes Go.ChangeShapes Go.Deep
theorem nmdCells_eq (l : List Nmd) : nmdCells l = cellsG nmdC l := by
  induction l with
  | nil => rfl
  | cons x l ih => simp only [nmdCells, cellsG, ih]
theorem mtCells_eq (l : List Mt) : mtCells l = cellsG mtC l := by
  induction l with
  | nil => rfl
  | cons x l ih => simp only [mtCells, cellsG, ih]; rfl
section
variable {H : Type} {enc : TypeId × Value → H} {P : Program} {W : World} {base : Nat} {spare : Nat → Bool} {held : Bool}
theorem row_cellsG {a : Addr} {len size : Nat} {f : Nat → List Value} (h0 : 0 < size) (hlen : ∀ i, i < len → (f i).length = size) (hat : ∀ i, i < len → ∀ j, j < size → W.cell? (a.add (i * size + j)) = (f i)[j]?) (hp : 0 < len) :
    ∃ b o, a = ⟨b, o, none⟩ ∧ b < W.heap.size ∧ ∀ i, i < len → ∀ j x, (f i)[j]? = some x → W.cell? ⟨b, o + (i * size + j), none⟩ = some x := by
  obtain ⟨b, off, spot⟩ := a
  obtain ⟨x0, hx0⟩ : ∃ x, (f 0)[0]? = some x := ⟨_, List.getElem?_eq_getElem (by rw [hlen 0 hp]; exact h0)⟩
  have hc := hat 0 hp 0 h0
  rw [hx0] at hc
  have hspot : spot = none := by simpa [Addr.add] using World.cell?_spot hc
  subst hspot
  refine ⟨b, off, rfl, by have := cell_ltA hc; simpa [Addr.add] using this, fun i hi j x hx => ?_⟩
  have hj : j < size := by have := (List.getElem?_eq_some_iff.1 hx).1; rw [hlen i hi] at this; exact this
  have := hat i hi j hj
  rw [add_off, hx] at this
  exact this
theorem rows_of_trod {α : Type} [Inhabited α] (f : α → List Value) (k : Nat) (hk : ∀ x, (f x).length = k) (h0 : 0 < k) {t e : TypeId} {fs : Array Field} {fuel : Nat} {v : Value} {x : DataW H × List MemPlace}
    (ht : P.underlying t = some (.slice e)) (he : P.underlying e = some (.struct fs)) (hC : P.cellsOf e = k) (Q : α → Prop)
    (hel : ∀ (es : List Value) (n : Nat), es.length = k → (∀ (j : Nat) (fd : Field), fs[j]? = some fd → ∃ y, DataW.trod enc P W base spare held n fd.type ((es.drop fd.offset).take (P.cellsOf fd.type)) = some y) → ∃ x, f x = es ∧ Q x)
    (h : DataW.trod enc P W base spare held fuel t [v] = some x) :
    ∃ (l : List α) (a : Option Addr) (c : Nat), v = .slice a l.length c ∧ l.length ≤ c ∧ c ≤ maxLen ∧ RdAt W v l.length k (cellsG f l) ∧ ∀ x ∈ l, Q x := by
  rcases open_slice_structs ht he h with hcs | ⟨a, len, cap, hcs, hl, hm, hf⟩
  · cases hcs
    exact ⟨[], none, 0, rfl, Nat.le_refl _, Nat.zero_le _, RdAt.nil W k, fun _ h => by cases h⟩
  · cases hcs
    rw [hC] at hf
    have hone : ∀ i, i < len → ∃ s : α, (∀ j, j < k → W.cell? (a.add (i * k + j)) = (f s)[j]?) ∧ Q s := by
      intro i hi
      obtain ⟨es, n, hlen, hat, hfs⟩ := hf i hi
      obtain ⟨x, hx, hq⟩ := hel es n hlen hfs
      exact ⟨x, by rw [hx]; exact hat, hq⟩
    obtain ⟨g, hg⟩ : ∃ g : Nat → α, ∀ i, i < len → (∀ j, j < k → W.cell? (a.add (i * k + j)) = (f (g i))[j]?) ∧ Q (g i) :=
      ⟨fun i => if h : i < len then Classical.choose (hone i h) else default, fun i h => by have := Classical.choose_spec (hone i h); simpa only [dif_pos h] using this⟩
    have hgl : ((List.range len).map g).length = len := by simp
    refine ⟨(List.range len).map g, some a, cap, by rw [hgl], by omega, hm, ⟨by rw [cellsG_len hk], .inr ⟨a, cap, by rw [hgl], by omega, fun hn => ?_⟩⟩, fun s hs => ?_⟩
    · rw [hgl] at hn
      obtain ⟨b, o, rfl, hlt, hcell⟩ := row_cellsG (f := fun i => f (g i)) (size := k) h0 (fun _ _ => hk _) (fun i hi => (hg i hi).1) hn
      refine ⟨b, o, rfl, hlt, fun j x hj => ?_⟩
      have hjl := (List.getElem?_eq_some_iff.1 hj).1
      rw [cellsG_len hk, hgl] at hjl
      have hr : j % k < k := Nat.mod_lt _ h0
      have hjk : j / k * k + j % k = j := by rw [Nat.mul_comm]; exact Nat.div_add_mod j k
      have hmk : j / k < len := Nat.div_lt_of_lt_mul (by rw [Nat.mul_comm]; exact hjl)
      obtain ⟨y, hy⟩ : ∃ y, (f (g (j / k)))[j % k]? = some y := ⟨_, List.getElem?_eq_getElem (by rw [hk]; exact hr)⟩
      have hq := cellsG_at hk ((List.range len).map g) (j / k) (by rw [hgl]; exact hmk) (j % k) y (by simpa using hy)
      rw [hjk, hj] at hq
      obtain rfl := Option.some.inj hq
      have := hcell (j / k) hmk (j % k) x hy
      rwa [hjk] at this
    · obtain ⟨i, hi, rfl⟩ := List.mem_map.1 hs
      exact (hg i (List.mem_range.1 hi)).2
end
instance : Inhabited Mt := ⟨⟨⟨#[]⟩, 0, ⟨#[]⟩⟩⟩
instance : Inhabited PRt := ⟨⟨⟨#[]⟩, [], 0, 0, 0, [], undef, undef⟩⟩
instance : Inhabited PIh := ⟨⟨[], 0, 0, [], [], undef, undef, undef⟩⟩
set_option maxRecDepth 100000 in
theorem mtsG_of_trod {H : Type} {enc : TypeId × Value → H} {W : World} {n : Nat} {v : Value} {x : DataW H × List MemPlace} (h : DataW.trod enc Try.prog W 0 (fun _ => true) true n 90 [v] = some x) : ∃ l, MtsAt W v l ∧ l.length ≤ maxLen ∧ MtsFit l := by
  have hcs1 : Try.prog.cellsOf 9 = 1 := by kernel_rfl
  have hci : Try.prog.cellsOf 3 = 1 := by kernel_rfl
  obtain ⟨l, a, c, hv, h1, h2, h3, h4⟩ := rows_of_trod mtC 3 (fun _ => rfl) (by decide) Try.underlying90 Try.underlying113 (by kernel_rfl) MtFit (fun es n hlen hfs => by
    match es, hlen with
    | [e0, e1, e2], _ =>
      obtain ⟨y0, t0⟩ := hfs 0 _ rfl
      obtain ⟨y1, t1⟩ := hfs 1 _ rfl
      obtain ⟨y2, t2⟩ := hfs 2 _ rfl
      obtain ⟨s0, q0, _, z0⟩ := DataW.trod_string Try.underlying9 t0
      obtain ⟨k1, q1, _, _⟩ := DataW.trod_int Try.underlying3 t1
      obtain ⟨s2, q2, _, z2⟩ := DataW.trod_string Try.underlying9 t2
      simp [hcs1] at q0 q2
      simp [hci] at q1
      subst q0 q1 q2
      exact ⟨⟨s0, k1, s2⟩, rfl, z0, z2⟩) h
  exact ⟨l, by unfold MtsAt; rw [mtCells_eq]; exact h3, Nat.le_trans h1 h2, h4⟩
set_option maxRecDepth 100000 in
theorem nmdsG_of_trod {H : Type} {enc : TypeId × Value → H} {W : World} {n : Nat} {v : Value} {x : DataW H × List MemPlace} (h : DataW.trod enc Try.prog W 0 (fun _ => true) true n 22 [v] = some x) : ∃ l, NmdsAt W v l ∧ NmdWide l := by
  have hcs1 : Try.prog.cellsOf 9 = 1 := by kernel_rfl
  have hcl : Try.prog.cellsOf 34 = 2 := by kernel_rfl
  obtain ⟨l, a, c, hv, h1, h2, h3, h4⟩ := rows_of_trod nmdC 3 (fun _ => rfl) (by decide) Try.underlying22 Try.underlying73 (by kernel_rfl) (fun y => y.2.2 < 4294967296 ∧ y.1.size ≤ maxLen) (fun es n hlen hfs => by
    match es, hlen with
    | [e0, e1, e2], _ =>
      obtain ⟨y0, t0⟩ := hfs 0 _ rfl
      obtain ⟨y1, t1⟩ := hfs 1 _ rfl
      obtain ⟨s0, q0, _, z0⟩ := DataW.trod_string Try.underlying9 t0
      simp [hcs1] at q0
      subst q0
      have t1' : DataW.trod enc Try.prog W 0 (fun _ => true) true n 34 [e1, e2] = some y1 := by simpa [hcl] using t1
      obtain ⟨l, c, r1, r2, hc⟩ := lab_of_trod t1'
      subst r1 r2
      exact ⟨(s0, l, c), rfl, hc, z0⟩) h
  exact ⟨l, by unfold NmdsAt; rw [nmdCells_eq]; exact h3, Nat.le_trans h1 h2, fun x hx => (h4 x hx).1, fun x hx => (h4 x hx).2⟩
set_option maxRecDepth 100000 in
theorem strsG_of_trod {H : Type} {enc : TypeId × Value → H} {W : World} {n : Nat} {v : Value} {x : DataW H × List MemPlace} (h : DataW.trod enc Try.prog W 0 (fun _ => true) true n 89 [v] = some x) : ∃ l, StrsG W v l ∧ StrsFit l := by
  rcases open_strings Try.underlying89 Try.underlying9 (by kernel_rfl) h with ⟨hcs, _⟩ | ⟨a, len, cap, ss, hcs, _, hl, hm, hz, _, hcell, hws⟩
  · cases hcs
    exact ⟨[], RdAt.nil W 1, Nat.zero_le _, by simp⟩
  · cases hcs
    simp only [if_true] at hz
    have hlen : (ss.take len).length = len := by rw [List.length_take]; omega
    refine ⟨ss.take len, ⟨by simp, .inr ⟨a, cap, by rw [hlen], by omega, fun hn => ?_⟩⟩, by rw [hlen]; omega, fun x hx => hws x (List.mem_of_mem_take hx)⟩
    rw [hlen] at hn
    obtain ⟨b, off, spot⟩ := a
    have hspot : spot = none := by simpa [Addr.add] using World.cell?_spot (hcell 0 (by omega))
    subst hspot
    have hall : ∀ j, j < ss.length → W.cell? ⟨b, off + j, none⟩ = some (.string (ss.getD j ByteArray.empty)) := fun j hj => by rw [← Go.WideShapes.add_plain]; exact hcell j hj
    refine ⟨b, off, rfl, cell_ltA (a := ⟨b, off + 0, none⟩) (hall 0 (by omega)), fun j x hx => ?_⟩
    rw [List.getElem?_map, Option.map_eq_some_iff] at hx
    obtain ⟨y, hy, rfl⟩ := hx
    have hj : j < len := by have := (List.getElem?_eq_some_iff.1 hy).1; rw [hlen] at this; exact this
    rw [hall j (by omega)]
    rw [List.getElem?_take_of_lt hj] at hy
    simp [List.getD, hy]
set_option maxRecDepth 100000 in
theorem rts_of_trod {H : Type} {enc : TypeId × Value → H} {W : World} {n : Nat} {v : Value} {x : DataW H × List MemPlace} (h : DataW.trod enc Try.prog W 0 (fun _ => true) true n 23 [v] = some x) : ∃ l, RtsAt W v l ∧ l.length ≤ maxLen ∧ ∀ r ∈ l, RtFit r := by
  have hcs1 : Try.prog.cellsOf 9 = 1 := by kernel_rfl
  have hci : Try.prog.cellsOf 3 = 1 := by kernel_rfl
  have hcm : Try.prog.cellsOf 90 = 1 := by kernel_rfl
  have hcn : Try.prog.cellsOf 89 = 1 := by kernel_rfl
  obtain ⟨l, a, c, hv, h1, h2, h3, h4⟩ := rows_of_trod rtC 6 (fun _ => rfl) (by decide) Try.underlying23 Try.underlying92 (by kernel_rfl) (fun r => RtIn W r ∧ RtFit r) (fun es n hlen hfs => by
    match es, hlen with
    | [e0, e1, e2, e3, e4, e5], _ =>
      obtain ⟨y0, t0⟩ := hfs 0 _ rfl
      obtain ⟨y1, t1⟩ := hfs 1 _ rfl
      obtain ⟨y2, t2⟩ := hfs 2 _ rfl
      obtain ⟨y3, t3⟩ := hfs 3 _ rfl
      obtain ⟨y4, t4⟩ := hfs 4 _ rfl
      obtain ⟨y5, t5⟩ := hfs 5 _ rfl
      obtain ⟨s0, q0, _, z0⟩ := DataW.trod_string Try.underlying9 t0
      obtain ⟨k2, q2, _, _⟩ := DataW.trod_int Try.underlying3 t2
      obtain ⟨k3, q3, _, _⟩ := DataW.trod_int Try.underlying3 t3
      obtain ⟨k4, q4, _, _⟩ := DataW.trod_int Try.underlying3 t4
      simp [hcs1] at q0
      simp [hci] at q2 q3 q4
      subst q0 q2 q3 q4
      have t1' : DataW.trod enc Try.prog W 0 (fun _ => true) true n 89 [e1] = some y1 := by simpa [hcn] using t1
      have t5' : DataW.trod enc Try.prog W 0 (fun _ => true) true n 90 [e5] = some y5 := by simpa [hcm] using t5
      obtain ⟨bs, b1, b2⟩ := strsG_of_trod t1'
      obtain ⟨ms, m1, m2, m3⟩ := mtsG_of_trod t5'
      exact ⟨⟨s0, bs, k2, k3, k4, ms, e1, e5⟩, rfl, ⟨b1, m1⟩, ⟨z0, b2, m3, m2⟩⟩) h
  exact ⟨l, ⟨h3, fun r hr => (h4 r hr).1⟩, Nat.le_trans h1 h2, fun r hr => (h4 r hr).2⟩
set_option maxRecDepth 100000 in
theorem ihs_of_trod {H : Type} {enc : TypeId × Value → H} {W : World} {n : Nat} {v : Value} {x : DataW H × List MemPlace} (h : DataW.trod enc Try.prog W 0 (fun _ => true) true n 24 [v] = some x) : ∃ l, IhsAt W v l ∧ l.length ≤ maxLen ∧ ∀ r ∈ l, IhFit r := by
  have hcl : Try.prog.cellsOf 34 = 2 := by kernel_rfl
  have hcm : Try.prog.cellsOf 90 = 1 := by kernel_rfl
  have hcn : Try.prog.cellsOf 89 = 1 := by kernel_rfl
  obtain ⟨l, a, c, hv, h1, h2, h3, h4⟩ := rows_of_trod ihC 5 (fun _ => rfl) (by decide) Try.underlying24 Try.underlying96 (by kernel_rfl) (fun r => IhIn W r ∧ IhFit r) (fun es n hlen hfs => by
    match es, hlen with
    | [e0, e1, e2, e3, e4], _ =>
      obtain ⟨y0, t0⟩ := hfs 0 _ rfl
      obtain ⟨y1, t1⟩ := hfs 1 _ rfl
      obtain ⟨y2, t2⟩ := hfs 2 _ rfl
      obtain ⟨y3, t3⟩ := hfs 3 _ rfl
      have t0' : DataW.trod enc Try.prog W 0 (fun _ => true) true n 89 [e0] = some y0 := by simpa [hcn] using t0
      have t1' : DataW.trod enc Try.prog W 0 (fun _ => true) true n 34 [e1, e2] = some y1 := by simpa [hcl] using t1
      have t2' : DataW.trod enc Try.prog W 0 (fun _ => true) true n 90 [e3] = some y2 := by simpa [hcm] using t2
      have t3' : DataW.trod enc Try.prog W 0 (fun _ => true) true n 90 [e4] = some y3 := by simpa [hcm] using t3
      obtain ⟨bs, b1, b2⟩ := strsG_of_trod t0'
      obtain ⟨l, c, r1, r2, hc⟩ := lab_of_trod t1'
      obtain ⟨fs, f1, f2, f3⟩ := mtsG_of_trod t2'
      obtain ⟨ms, m1, m2, m3⟩ := mtsG_of_trod t3'
      subst r1 r2
      exact ⟨⟨bs, l, c, fs, ms, e0, e3, e4⟩, rfl, ⟨b1, f1, m1⟩, ⟨b2, hc, f3, m3, f2, m2⟩⟩) h
  exact ⟨l, ⟨h3, fun r hr => (h4 r hr).1⟩, Nat.le_trans h1 h2, fun r hr => (h4 r hr).2⟩
def ArgPolD (w : World) (v : Value) (x : PV) (p : PD) : Prop := v = x.v ∧ PolAt w x p ∧ PolFitD p
theorem polD_of_trod {H : Type} {enc : TypeId × Value → H} {W : World} {n : Nat} {e0 e1 e2 e3 e4 e5 : Value} {x : DataW H × List MemPlace} (h : DataW.trod enc Try.prog W 0 (fun _ => true) true n 26 [e0, e1, e2, e3, e4, e5] = some x) : ∃ x p, ArgPolD W (.agg #[e0, e1, e2, e3, e4, e5]) x p := by
  have hcn : Try.prog.cellsOf 22 = 1 := by kernel_rfl
  have hcr : Try.prog.cellsOf 23 = 1 := by kernel_rfl
  have hci : Try.prog.cellsOf 24 = 1 := by kernel_rfl
  obtain ⟨ys, n', hn', hy, hlen, hyl, hf⟩ := DataW.trod_struct Try.underlying26 h
  have t0 := hf 0 _ rfl
  have t1 := hf 1 _ rfl
  have t2 := hf 2 _ rfl
  have t3 := hf 3 _ rfl
  have t4 := hf 4 _ rfl
  have t5 := hf 5 _ rfl
  match ys, hyl with
  | [y0, y1, y2, y3, y4, y5], _ =>
    have t0' : DataW.trod enc Try.prog W 0 (fun _ => true) true n' 22 [e0] = some y0 := by simpa [hcn] using t0
    have t1' : DataW.trod enc Try.prog W 0 (fun _ => true) true n' 22 [e1] = some y1 := by simpa [hcn] using t1
    have t2' : DataW.trod enc Try.prog W 0 (fun _ => true) true n' 22 [e2] = some y2 := by simpa [hcn] using t2
    have t3' : DataW.trod enc Try.prog W 0 (fun _ => true) true n' 22 [e3] = some y3 := by simpa [hcn] using t3
    have t4' : DataW.trod enc Try.prog W 0 (fun _ => true) true n' 23 [e4] = some y4 := by simpa [hcr] using t4
    have t5' : DataW.trod enc Try.prog W 0 (fun _ => true) true n' 24 [e5] = some y5 := by simpa [hci] using t5
    obtain ⟨l0, a0, b0⟩ := nmdsG_of_trod t0'
    obtain ⟨l1, a1, b1⟩ := nmdsG_of_trod t1'
    obtain ⟨l2, a2, b2⟩ := nmdsG_of_trod t2'
    obtain ⟨l3, a3, b3⟩ := nmdsG_of_trod t3'
    obtain ⟨l4, a4, b4, c4⟩ := rts_of_trod t4'
    obtain ⟨l5, a5, b5, c5⟩ := ihs_of_trod t5'
    exact ⟨⟨e0, e1, e2, e3, e4, e5⟩, ⟨l0, l1, l2, l3, l4, l5⟩, rfl, ⟨a0, a1, a2, a3, a4, a5⟩, ⟨b0, b1, b2, b3, b4, c4, b5, c5⟩⟩
end Go.Proofs.Ytipnhpfpppblhaa

/- lychgateref08.Cut on a policy that is known whole. -/
namespace Go.Proofs.Ytipnhpfpppblhaa
open Go.RowKit Go.WideShapes Go.ChangeShapes Go.Deep
def PD.cut (p : PD) : PD := ⟨p.so.take 14, p.re.take 14, p.pe.take 14, p.ra.take 14, p.ro.take 14, p.ih.take 14⟩
theorem nmdG_take {w : World} {a : Option Addr} {c : Nat} {l : List Nmd} (h : NmdsAt w (.slice a l.length c) l) : NmdsAt w (.slice a (l.take 14).length c) (l.take 14) := by
  unfold NmdsAt at *
  rw [nmdCells_eq] at *
  have := rdG_take (f := nmdC) (fun _ => rfl) h 14
  rwa [show min l.length 14 = (l.take 14).length by rw [List.length_take, Nat.min_comm]] at this
theorem wide_take {l : List Nmd} (h : NmdWide l) : NmdWide (l.take 14) := ⟨by rw [List.length_take]; have := h.1; omega, fun x hx => h.2.1 x (List.mem_of_mem_take hx), fun x hx => h.2.2 x (List.mem_of_mem_take hx)⟩
theorem cutD_fit {p : PD} (h : PolFitD p) : PolFitD p.cut :=
  ⟨wide_take h.h0, wide_take h.h1, wide_take h.h2, wide_take h.h3, (by show (p.ro.take 14).length ≤ _; rw [List.length_take]; have := h.l4; omega), fun r hr => h.h4 r (List.mem_of_mem_take hr), (by show (p.ih.take 14).length ≤ _; rw [List.length_take]; have := h.l5; omega), fun r hr => h.h5 r (List.mem_of_mem_take hr)⟩
structure PA where
  a0 : Option Addr
  c0 : Nat
  a1 : Option Addr
  c1 : Nat
  a2 : Option Addr
  c2 : Nat
  a3 : Option Addr
  c3 : Nat
  a4 : Option Addr
  c4 : Nat
  a5 : Option Addr
  c5 : Nat
abbrev PA.pv (x : PA) (p : PD) : PV := ⟨.slice x.a0 p.so.length x.c0, .slice x.a1 p.re.length x.c1, .slice x.a2 p.pe.length x.c2, .slice x.a3 p.ra.length x.c3, .slice x.a4 p.ro.length x.c4, .slice x.a5 p.ih.length x.c5⟩
theorem pol_shape {w : World} {v : PV} {p : PD} (h : PolAt w v p) : ∃ x : PA, v = x.pv p ∧ p.so.length ≤ x.c0 ∧ p.re.length ≤ x.c1 ∧ p.pe.length ≤ x.c2 ∧ p.ra.length ≤ x.c3 ∧ p.ro.length ≤ x.c4 ∧ p.ih.length ≤ x.c5 := by
  obtain ⟨v0, v1, v2, v3, v4, v5⟩ := v
  obtain ⟨a0, c0, e0, l0, _⟩ := RdAt.shape h.h0
  obtain ⟨a1, c1, e1, l1, _⟩ := RdAt.shape h.h1
  obtain ⟨a2, c2, e2, l2, _⟩ := RdAt.shape h.h2
  obtain ⟨a3, c3, e3, l3, _⟩ := RdAt.shape h.h3
  obtain ⟨a4, c4, e4, l4, _⟩ := RdAt.shape h.h4.1
  obtain ⟨a5, c5, e5, l5, _⟩ := RdAt.shape h.h5.1
  dsimp only at e0 e1 e2 e3 e4 e5
  subst e0 e1 e2 e3 e4 e5
  exact ⟨⟨a0, c0, a1, c1, a2, c2, a3, c3, a4, c4, a5, c5⟩, rfl, l0, l1, l2, l3, l4, l5⟩
theorem pol_cut {w : World} {x : PA} {p : PD} (h : PolAt w (x.pv p) p) : PolAt w (x.pv p.cut) p.cut := by
  refine ⟨nmdG_take h.h0, nmdG_take h.h1, nmdG_take h.h2, nmdG_take h.h3, ⟨?_, fun r hr => h.h4.2 r (List.mem_of_mem_take hr)⟩, ⟨?_, fun r hr => h.h5.2 r (List.mem_of_mem_take hr)⟩⟩
  · have := rdG_take (f := rtC) rtC_len h.h4.1 14
    rwa [show min p.ro.length 14 = (p.ro.take 14).length by rw [List.length_take, Nat.min_comm]] at this
  · have := rdG_take (f := ihC) ihC_len h.h5.1 14
    rwa [show min p.ih.length 14 = (p.ih.take 14).length by rw [List.length_take, Nat.min_comm]] at this
/-! ### capacities -/
def PCap (x : PV) : Prop := (∃ a n c, x.v0 = .slice a n c ∧ c ≤ maxLen) ∧ (∃ a n c, x.v1 = .slice a n c ∧ c ≤ maxLen) ∧ (∃ a n c, x.v2 = .slice a n c ∧ c ≤ maxLen) ∧ (∃ a n c, x.v3 = .slice a n c ∧ c ≤ maxLen) ∧ (∃ a n c, x.v4 = .slice a n c ∧ c ≤ maxLen) ∧ (∃ a n c, x.v5 = .slice a n c ∧ c ≤ maxLen)
section
variable {H : Type} {enc : TypeId × Value → H} {P : Program} {w : World} {base : Nat} {spare : Nat → Bool} {held : Bool}
theorem slice_of_trodC {t e : TypeId} {fuel : Nat} {v : Value} {x : DataW H × List MemPlace} (ht : P.underlying t = some (.slice e)) (h : DataW.trod enc P w base spare held fuel t [v] = some x) :
    ∃ a n c, v = .slice a n c ∧ c ≤ maxLen := by
  rcases open_slice ht h with ⟨h0, _⟩ | ⟨a, len, cap, m, n, D, Pl, hcs, hb, hl, hm, hmm, hx, hi⟩
  · cases h0; exact ⟨none, 0, 0, rfl, Nat.zero_le _⟩
  · cases hcs; exact ⟨some a, len, cap, rfl, hm⟩
end
def ArgPolC (w : World) (v : Value) (x : PV) (p : PD) : Prop := ArgPolD w v x p ∧ PCap x
set_option maxRecDepth 100000 in
theorem polC_of_arg {H : Type} {enc : TypeId × Value → H} {W : World} {base : Nat} {v : Value} {d : DataW H} {p : List MemPlace} (hval : Value.okWide Try.prog W .any base 26 v) (h : DataW.Trod enc Try.prog W 0 (fun _ => true) true 26 v d p) : ∃ x y, ArgPolC W v x y := by
  have hcn : Try.prog.cellsOf 22 = 1 := by kernel_rfl
  have hcr : Try.prog.cellsOf 23 = 1 := by kernel_rfl
  have hci : Try.prog.cellsOf 24 = 1 := by kernel_rfl
  obtain ⟨cs, rfl, hsz, _⟩ : ∃ cs, v = .agg cs ∧ cs.size = Try.prog.cellsOf 26 ∧ Row.okWide Try.prog W .any base 26 cs := by
    simpa [Value.okWide, Try.underlying26] using hval
  rw [show Try.prog.cellsOf 26 = 6 by kernel_rfl] at hsz
  obtain ⟨fuel, hf⟩ := h
  obtain ⟨l⟩ := cs
  match l, hsz with
  | [e0, e1, e2, e3, e4, e5], _ =>
    obtain ⟨x, y, hxy⟩ := polD_of_trod hf
    obtain ⟨ys, n', hn', hy, hlen, hyl, hg⟩ := DataW.trod_struct Try.underlying26 hf
    have t0 := hg 0 _ rfl
    have t1 := hg 1 _ rfl
    have t2 := hg 2 _ rfl
    have t3 := hg 3 _ rfl
    have t4 := hg 4 _ rfl
    have t5 := hg 5 _ rfl
    match ys, hyl with
    | [y0, y1, y2, y3, y4, y5], _ =>
      have s0 := slice_of_trodC Try.underlying22 (show DataW.trod enc Try.prog W 0 (fun _ => true) true n' 22 [e0] = some y0 by simpa [hcn, Value.cells] using t0)
      have s1 := slice_of_trodC Try.underlying22 (show DataW.trod enc Try.prog W 0 (fun _ => true) true n' 22 [e1] = some y1 by simpa [hcn, Value.cells] using t1)
      have s2 := slice_of_trodC Try.underlying22 (show DataW.trod enc Try.prog W 0 (fun _ => true) true n' 22 [e2] = some y2 by simpa [hcn, Value.cells] using t2)
      have s3 := slice_of_trodC Try.underlying22 (show DataW.trod enc Try.prog W 0 (fun _ => true) true n' 22 [e3] = some y3 by simpa [hcn, Value.cells] using t3)
      have s4 := slice_of_trodC Try.underlying23 (show DataW.trod enc Try.prog W 0 (fun _ => true) true n' 23 [e4] = some y4 by simpa [hcr, Value.cells] using t4)
      have s5 := slice_of_trodC Try.underlying24 (show DataW.trod enc Try.prog W 0 (fun _ => true) true n' 24 [e5] = some y5 by simpa [hci, Value.cells] using t5)
      refine ⟨x, y, hxy, ?_⟩
      have he := hxy.1
      obtain ⟨v0, v1, v2, v3, v4, v5⟩ := x
      simp only [PV.v, Value.agg.injEq, Array.mk.injEq, List.cons.injEq, and_true] at he
      obtain ⟨rfl, rfl, rfl, rfl, rfl, rfl⟩ := he
      exact ⟨s0, s1, s2, s3, s4, s5⟩
theorem rcutD_any (x : PA) (p : PD) (w : World) (h : PolAt w (x.pv p) p) (hc : PCap (x.pv p)) :
    Calls Try.prog 7 #[(x.pv p).v, .int .i64 14] w fun e w' => e = .returned (x.pv p.cut).v ∧ Below w.heap.size w w' := by
  have cap : ∀ {a : Option Addr} {n c : Nat}, (∃ a' n' c', Value.slice a n c = .slice a' n' c' ∧ c' ≤ maxLen) → c ≤ maxLen := by
    rintro a n c ⟨a', n', c', h1, h2⟩
    simp only [Value.slice.injEq] at h1
    rw [h1.2.2]; exact h2
  have le : ∀ {v : Value} {a : Option Addr} {n c k : Nat} {xs : List Value}, v = .slice a n c → RdAt w v n k xs → n ≤ c := by
    rintro v a n c k xs rfl h1
    obtain ⟨a', c', h2, h3, _⟩ := RdAt.shape h1
    simp only [Value.slice.injEq] at h2
    rw [h2.2.2]; exact h3
  obtain ⟨q0, q1, q2, q3, q4, q5⟩ := hc
  have hh := rcut_any x.a0 x.a1 x.a2 x.a3 x.a4 x.a5 p.so.length p.re.length p.pe.length p.ra.length p.ro.length p.ih.length x.c0 x.c1 x.c2 x.c3 x.c4 x.c5 w ⟨le rfl h.h0, cap q0⟩ ⟨le rfl h.h1, cap q1⟩ ⟨le rfl h.h2, cap q2⟩ ⟨le rfl h.h3, cap q3⟩ ⟨le rfl h.h4.1, cap q4⟩ ⟨le rfl h.h5.1, cap q5⟩
  refine hh.mono ?_
  rintro e w' ⟨rfl, hb⟩
  refine ⟨?_, hb⟩
  unfold PD.cut
  dsimp only [PA.pv, PV.v]
  simp only [List.length_take]
  rw [Nat.min_comm p.so.length, Nat.min_comm p.re.length, Nat.min_comm p.pe.length, Nat.min_comm p.ra.length, Nat.min_comm p.ro.length, Nat.min_comm p.ih.length]
end Go.Proofs.Ytipnhpfpppblhaa

/- lychgatelaw09.lives is true. -/
namespace Go.Proofs.Ytipnhpfpppblhaa
open Go.RowKit Go.Maps
abbrev sHost : ByteArray := ⟨#[104, 111, 115, 116]⟩
abbrev sH : ByteArray := ⟨#[104]⟩
abbrev sTeam : ByteArray := ⟨#[116, 101, 97, 109]⟩
abbrev sT : ByteArray := ⟨#[116]⟩
abbrev sProm : ByteArray := ⟨#[112, 114, 111, 109]⟩
abbrev exR : List Nmd := [(sHost, 4, 0)]
abbrev exF : List Fld := [(sHost, sH), (sTeam, sT)]
abbrev exA : Al := ⟨sProm, exF, 2, 0, 5, 0⟩
theorem exVis : visL exR exF (2, 0) (3, 0) = [(sTeam, sT)] := by decide +kernel
theorem exOk : cutOk exR exF (2, 0) (3, 0) = true := by decide +kernel
theorem exRight : rightA exA = true := by decide +kernel
theorem exPuts : putsL exR [exA] = [((2, 0), idA exA), ((4, 0), idA exA), ((2, 0), idA exA)] := by
  have h1 : raisedL exR sHost (2, 0) = (4, 0) := by decide +kernel
  have h2 : raisedL exR sTeam (2, 0) = (2, 0) := by decide +kernel
  unfold putsL
  rw [List.flatMap_cons, List.flatMap_nil, List.append_nil, putsA, if_pos exRight]
  simp only [List.map_cons, List.map_nil]
  rw [h1, h2]
theorem DO_has {R : List Out} (h : ∀ o ∈ R, wfL o.x) {x : Int × Nat} (hx : wfL x) : has (DO R) (kL x) = decide (x ∈ R.map (·.x)) ∧ Tidy (DO R) := by
  induction R with
  | nil => exact ⟨rfl, tidy_empty⟩
  | cons e T ih =>
    obtain ⟨ih, ht⟩ := ih (fun f hf => h f (List.mem_cons_of_mem _ hf))
    have he := h e List.mem_cons_self
    refine ⟨?_, ht.put (kL_key _) _⟩
    by_cases hex : x = e.x
    · subst hex
      rw [DO, has_put_same ht.isMap (kL_key _)]
      simp
    · rw [DO, has_put_other (fun h' => hex (kL_inj hx he h')), ih]
      simp [hex]
theorem DO_size {R : List Out} (h : ∀ o ∈ R, wfL o.x) (hn : R.Pairwise (fun a b => a.x ≠ b.x)) : Maps.size (DO R) = R.length := by
  induction R with
  | nil => rfl
  | cons f T ih =>
    have h' := fun g hg => h g (List.mem_cons_of_mem _ hg)
    have ih := ih h' (List.pairwise_cons.1 hn).2
    obtain ⟨h1, h2⟩ := DO_has h' (h f List.mem_cons_self)
    have hnot : has (DO T) (kL f.x) = false := by
      rw [h1, decide_eq_false]
      intro hm
      obtain ⟨g, hg, hgx⟩ := List.mem_map.1 hm
      exact (List.pairwise_cons.1 hn).1 g hg hgx.symm
    rw [DO, size_put h2, hnot, ih]
    rfl
theorem ex_two {w w' : World} {e : Ending} (h : ApartPost exR [exA] w e w') : ∃ mo, e = .returned (.map (some mo)) ∧ (∀ ty, (Builtin.len_ #[40] ty #[.map (some mo)]).run Try.prog w' = .ok (.int .i64 2) w') ∧ Below w.heap.size w w' := by
  obtain ⟨mo, R, rfl, hown, hR, hn, hall, hb⟩ := h
  rw [exPuts] at hR hall
  have h2 : R.length = 2 := by
    have hm : ∀ o ∈ R, o.x ∈ ([(2, 0), (4, 0)] : List (Int × Nat)) := fun o ho => by
      obtain ⟨_, _, _, h0, hi⟩ := hR o ho
      obtain ⟨i, hii⟩ := List.exists_mem_of_ne_nil _ h0
      have := (hi i).1 hii
      simp only [List.mem_cons, Prod.mk.injEq, List.not_mem_nil, or_false] at this ⊢
      rcases this with ⟨h, _⟩ | ⟨h, _⟩ | ⟨h, _⟩
      · exact .inl h
      · exact .inr h
      · exact .inl h
    have l1 := nodup_len (R.map (·.x)) [(2, 0), (4, 0)] (pw_of_map.1 hn) (fun x hx => by obtain ⟨o, ho, rfl⟩ := List.mem_map.1 hx; exact hm o ho)
    have l2 := nodup_len [(2, 0), (4, 0)] (R.map (·.x)) (by decide) (fun x hx => by
      have : ∃ i, (x, i) ∈ [(((2 : Int), (0 : Nat)), idA exA), ((4, 0), idA exA), ((2, 0), idA exA)] := by
        refine ⟨idA exA, ?_⟩
        simp only [List.mem_cons, List.not_mem_nil, or_false] at hx
        rcases hx with rfl | rfl <;> simp
      obtain ⟨i, hi⟩ := this
      obtain ⟨o, ho, hox⟩ := hall x i hi
      exact List.mem_map.2 ⟨o, ho, hox⟩)
    rw [List.length_map] at l1 l2
    simp at l1 l2
    omega
  refine ⟨mo, rfl, fun ty => ?_, hb⟩
  have := hown.len Try.underlying40 ty
  rw [DO_size (fun o ho => (hR o ho).1) hn, h2] at this
  exact this
end Go.Proofs.Ytipnhpfpppblhaa

/- lychgatelaw09.lives: the walk. -/
namespace Go.Proofs.Ytipnhpfpppblhaa
open Go.RowKit Go.Maps
theorem fldsfit_ex : FldsFit exF := by
  intro f hf
  simp only [List.mem_cons, List.not_mem_nil, or_false] at hf
  rcases hf with rfl | rfl <;> decide
set_option maxHeartbeats 1600000 in
set_option maxRecDepth 100000 in
theorem lives_any (w : World) : Calls Try.prog 6 #[] w fun e w' => e = .returned (.bool true) ∧ Below w.heap.size w w' := by
  obtain ⟨Wn, hWn⟩ : ∃ z, w.alloc (.cells #[.string sHost, .int .i64 4, .int .u32 0] 73) = z := ⟨_, rfl⟩
  have sn : Wn.heap.size = w.heap.size + 1 := by rw [← hWn, World.size_alloc]
  obtain ⟨Wp, hWp⟩ : ∃ z, Wn.alloc (.cells #[.slice none 0 0, .slice none 0 0, .slice none 0 0, .slice (some ⟨w.heap.size, 0, none⟩) 1 1, .slice none 0 0, .slice none 0 0] 26) = z := ⟨_, rfl⟩
  have sp : Wp.heap.size = w.heap.size + 1 + 1 := by rw [← hWp, World.size_alloc, sn]
  obtain ⟨Wf, hWf⟩ : ∃ z, Wp.alloc (.cells #[.string sHost, .string sH, .string sTeam, .string sT] 48) = z := ⟨_, rfl⟩
  have sf : Wf.heap.size = w.heap.size + 1 + 1 + 1 := by rw [← hWf, World.size_alloc, sp]
  obtain ⟨Wa, hWa⟩ : ∃ z, Wf.alloc (.cells #[.string sProm, .slice (some ⟨w.heap.size + 1 + 1, 0, none⟩) 2 2, .int .i64 2, .int .u32 0, .int .i64 5, .int .i64 0] 36) = z := ⟨_, rfl⟩
  have sa : Wa.heap.size = w.heap.size + 1 + 1 + 1 + 1 := by rw [← hWa, World.size_alloc, sf]
  have bn : Below w.heap.size w Wn := by rw [← hWn]; exact alloc_below _ _
  have bp : Below Wn.heap.size Wn Wp := by rw [← hWp]; exact alloc_below _ _
  have bf : Below Wp.heap.size Wp Wf := by rw [← hWf]; exact alloc_below _ _
  have ba : Below Wf.heap.size Wf Wa := by rw [← hWa]; exact alloc_below _ _
  have hNm : NmdsAt Wn (.slice (some ⟨w.heap.size, 0, none⟩) 1 1) exR := by
    refine RdAt.mk rfl (Nat.le_refl _) (by omega) (fun j x hj => ?_)
    rw [Nat.zero_add, ← hWn]
    exact (World.cell?_alloc_at _ _ _ _ rfl).trans (by
      have := hj
      match j, hj with
      | 0, hj => exact hj
      | 1, hj => exact hj
      | 2, hj => exact hj
      | j + 3, hj => simp [nmdCells, nmdC] at hj)
  have hFl : FldsAt Wf (.slice (some ⟨w.heap.size + 1 + 1, 0, none⟩) 2 2) exF := by
    refine RdAt.mk rfl (Nat.le_refl _) (by omega) (fun j x hj => ?_)
    rw [Nat.zero_add, ← hWf]
    exact (World.cell?_alloc_at _ _ _ _ sp.symm).trans (by
      match j, hj with
      | 0, hj => exact hj
      | 1, hj => exact hj
      | 2, hj => exact hj
      | 3, hj => exact hj
      | j + 4, hj => simp [fldCells] at hj)
  have hPb : C6 (w.heap.size + 1) (.slice none 0 0) (.slice none 0 0) (.slice none 0 0) (.slice (some ⟨w.heap.size, 0, none⟩) 1 1) (.slice none 0 0) (.slice none 0 0) Wp := by
    have h := Below.refl Wp.heap.size Wp
    rw [← hWp] at h
    obtain ⟨h, _, _⟩ := box6 h
    rw [hWp, sn] at h
    exact h
  have hAb : C6 (w.heap.size + 1 + 1 + 1) (.string sProm) (.slice (some ⟨w.heap.size + 1 + 1, 0, none⟩) 2 2) (.int .i64 2) (.int .u32 0) (.int .i64 5) (.int .i64 0) Wa := by
    have h := Below.refl Wa.heap.size Wa
    rw [← hWa] at h
    obtain ⟨h, _, _⟩ := box6 h
    rw [hWa, sf] at h
    exact h
  have bpa : Below Wp.heap.size Wp Wa := bf.trans (ba.mono bf.size)
  have HP0 := Lib.hid (hPb.later bpa (by omega))
  have HA0 := Lib.hid hAb
  have HN0 := Lib.hid ((hNm.later bp).later bpa)
  have HF0 := Lib.hid (hFl.later ba)
  have HB0 := Lib.hid (bn.trans ((bp.trans (bpa.mono bp.size)).mono bn.size))
  have hcut := cut_any (none, 0, 0) (none, 0, 0) (none, 0, 0) (none, 0, 0) (none, 0, 0) exR (.slice (some ⟨w.heap.size, 0, none⟩) 1 1) sProm exF (.slice (some ⟨w.heap.size + 1 + 1, 0, none⟩) 2 2) 2 0 5 0 3 0 Wa HN0.out (by decide) HF0.out (by decide)
  rw [exOk, exVis] at hcut
  have HWn := Lib.hid hWn
  have HWp := Lib.hid hWp
  have HWf := Lib.hid hWf
  have HWa := Lib.hid hWa
  have SA := Lib.hid sa
  clear bn bp bf ba hNm hFl hPb hAb bpa sn sp sf sa hWn hWp hWf hWa
  go_enter Try.func6, Try.ntmps6
  go_upto_region 3 with fail
  rw [HWn.out, HWp.out, HWf.out, HWa.out]
  obtain ⟨p0, p1, p2, p3, p4, p5⟩ := HP0.out
  obtain ⟨x0, x1, x2, x3, x4, x5⟩ := HA0.out
  go_wp2_with fail
  refine hcut.mono ?_
  rintro e w1 ⟨v1, hF1, _, hb1, rfl⟩
  obtain ⟨b1, o1, c1, rfl, hc1, hlt1, hcell1⟩ := RdAt.some hF1 (by decide)
  have t0 : w1.cell? ⟨b1, o1, none⟩ = some (.string sTeam) := hcell1 0 _ rfl
  have HP1 := Lib.hid (HP0.out.later hb1 (by have := SA.out; omega))
  have HA1 := Lib.hid (HA0.out.later hb1 (by have := SA.out; omega))
  have HN1 := Lib.hid (HN0.out.later hb1)
  have HF1' := Lib.hid (HF0.out.later hb1)
  have HB1 := Lib.hid (HB0.out.trans (hb1.mono HB0.out.size))
  have hlp : w.heap.size + 1 + 1 + 1 < w1.heap.size := Nat.lt_of_lt_of_le (by have := SA.out; omega) hb1.size
  have hba := alloc_below w1 (.cells #[.string sProm, .slice (some ⟨b1, o1, none⟩) 1 c1, .int .i64 2, .int .u32 0, .int .i64 5, .int .i64 0] 36)
  obtain ⟨X2, hltX, _⟩ := box6 (Below.refl (w1.alloc (.cells #[.string sProm, .slice (some ⟨b1, o1, none⟩) 1 c1, .int .i64 2, .int .u32 0, .int .i64 5, .int .i64 0] 36)).heap.size _)
  clear HP0 HA0 HN0 HF0 HB0 hb1 hcut p0 p1 p2 p3 p4 p5 x0 x1 x2 x3 x4 x5 hF1 hcell1 hc1
  simp only [cutR]
  go_upto_region 4 with fail
  change Code.wp _ _ _ _ (w1.alloc (.cells #[.string sProm, .slice (some ⟨b1, o1, none⟩) 1 c1, .int .i64 2, .int .u32 0, .int .i64 5, .int .i64 0] 36))
  generalize w1.alloc (.cells #[.string sProm, .slice (some ⟨b1, o1, none⟩) 1 c1, .int .i64 2, .int .u32 0, .int .i64 5, .int .i64 0] 36) = w2 at *
  have t2 := keep_cell t0 hba hlt1
  have HP2 := Lib.hid (HP1.out.later hba (by omega))
  have HA2 := Lib.hid (HA1.out.later hba (by omega))
  have HN2 := Lib.hid (HN1.out.later hba)
  have HF2 := Lib.hid (HF1'.out.later hba)
  have HB2 := Lib.hid (HB1.out.trans (hba.mono HB1.out.size))
  have HX2 : Hid (C6 w1.heap.size _ _ _ _ _ _ w2) := Lib.hid X2
  have hl2 : w.heap.size + 1 + 1 + 1 < w2.heap.size := Nat.lt_of_lt_of_le hlp hba.size
  have hltb : b1 < w2.heap.size := Nat.lt_of_lt_of_le hlt1 hba.size
  generalize w1.heap.size = bx at *
  clear HP1 HA1 HN1 HF1' HB1 hba t0 X2 hlp hlt1
  obtain ⟨x0, x1, x2, x3, x4, x5⟩ := HA2.out
  have hr := aright_any sProm exF 2 0 5 0 (.slice (some ⟨w.heap.size + 1 + 1, 0, none⟩) 2 2) w2 (by decide) HF2.out fldsfit_ex (by decide)
  rw [show (whoA sProm exF 2 && beginsA 5 && endsA 5 0) = true from exRight] at hr
  go_wp2_with fail
  refine hr.mono ?_
  rintro e w3 ⟨rfl, hb3⟩
  have t3 := keep_cell t2 hb3 hltb
  have HP3 := Lib.hid (HP2.out.later hb3 (by omega))
  have HA3 := Lib.hid (HA2.out.later hb3 (by omega))
  have HN3 := Lib.hid (HN2.out.later hb3)
  have HF3 := Lib.hid (HF2.out.later hb3)
  have HB3 := Lib.hid (HB2.out.trans (hb3.mono HB2.out.size))
  have HX3 := Lib.hid (HX2.out.later hb3 hltX)
  have hl3 : w.heap.size + 1 + 1 + 1 < w3.heap.size := Nat.lt_of_lt_of_le hl2 hb3.size
  clear HP2 HA2 HN2 HF2 HB2 HX2 hb3 t2 hl2 hltb hltX hr x0 x1 x2 x3 x4 x5
  obtain ⟨x0, x1, x2, x3, x4, x5⟩ := HA3.out
  obtain ⟨y0, y1, _, _, _, _⟩ := HX3.out
  have hf5 := fires_any sProm (some ⟨w.heap.size + 1 + 1, 0, none⟩) 2 2 2 0 5 0 5 w3
  go_wp2_with fail
  refine hf5.mono ?_
  rintro e w4 ⟨rfl, hb4⟩
  have HP4 := Lib.hid (HP3.out.later hb4 (by omega))
  have HA4 := Lib.hid (HA3.out.later hb4 (by omega))
  have HN4 := Lib.hid (HN3.out.later hb4)
  have HF4 := Lib.hid (HF3.out.later hb4)
  have HB4 := Lib.hid (HB3.out.trans (hb4.mono HB3.out.size))
  have hl4 : w.heap.size + 1 + 1 + 1 < w4.heap.size := Nat.lt_of_lt_of_le hl3 hb4.size
  clear HP3 HA3 HN3 HF3 HB3 HX3 hb4 t3 hl3 hf5 x0 x1 x2 x3 x4 x5 y0 y1
  obtain ⟨x0, x1, x2, x3, x4, x5⟩ := HA4.out
  have hf4 := fires_any sProm (some ⟨w.heap.size + 1 + 1, 0, none⟩) 2 2 2 0 5 0 4 w4
  go_wp2_with fail
  refine hf4.mono ?_
  rintro e w5 ⟨rfl, hb5⟩
  have HP5 := Lib.hid (HP4.out.later hb5 (by omega))
  have HA5 := Lib.hid (HA4.out.later hb5 (by omega))
  have HN5 := Lib.hid (HN4.out.later hb5)
  have HF5 := Lib.hid (HF4.out.later hb5)
  have HB5 := Lib.hid (HB4.out.trans (hb5.mono HB4.out.size))
  clear HP4 HA4 HN4 HF4 HB4 hb5 hl4 hf4 x0 x1 x2 x3 x4 x5
  obtain ⟨x0, x1, x2, x3, x4, x5⟩ := HA5.out
  obtain ⟨p0, p1, p2, p3, p4, p5⟩ := HP5.out
  have b6 := alloc_below w5 (.cells #[.string sProm, .slice (some ⟨w.heap.size + 1 + 1, 0, none⟩) 2 2, .int .i64 2, .int .u32 0, .int .i64 5, .int .i64 0] 36)
  have hal : AlsAt (w5.alloc (.cells #[.string sProm, .slice (some ⟨w.heap.size + 1 + 1, 0, none⟩) 2 2, .int .i64 2, .int .u32 0, .int .i64 5, .int .i64 0] 36)) (.slice (some ⟨w5.heap.size, 0, none⟩) 1 1) [(exA, .slice (some ⟨w.heap.size + 1 + 1, 0, none⟩) 2 2)] := by
    refine ⟨RdAt.mk rfl (Nat.le_refl _) (by simp) (fun j x hj => ?_), fun p hp => ?_⟩
    · rw [Nat.zero_add]
      exact (World.cell?_alloc_at _ _ _ _ rfl).trans (by
        match j, hj with
        | 0, hj => exact hj
        | 1, hj => exact hj
        | 2, hj => exact hj
        | 3, hj => exact hj
        | 4, hj => exact hj
        | 5, hj => exact hj
        | j + 6, hj => simp [alCells, alC] at hj)
    · rw [List.mem_singleton] at hp
      subst hp
      exact ⟨HF5.out.later b6, (by decide : sProm.size ≤ maxLen), fldsfit_ex, (by decide : exF.length ≤ maxLen), (by decide : 0 < 4294967296)⟩
  have hap := apart_any (none, 0, 0) (none, 0, 0) (none, 0, 0) (none, 0, 0) (none, 0, 0) exR (.slice (some ⟨w.heap.size, 0, none⟩) 1 1) [(exA, .slice (some ⟨w.heap.size + 1 + 1, 0, none⟩) 2 2)] (.slice (some ⟨w5.heap.size, 0, none⟩) 1 1) _ (HN5.out.later b6) (by decide) hal (by simp)
  have HB6 := Lib.hid (HB5.out.trans (b6.mono HB5.out.size))
  have HAP := Lib.hid hap
  clear hal hap b6 HN5 HF5 HB5
  go_wp2_with fail
  refine HAP.out.mono ?_
  intro e w7 h7
  obtain ⟨mo, rfl, hlen, hb7⟩ := ex_two h7
  have HB7 := Lib.hid (HB6.out.trans (hb7.mono HB6.out.size))
  clear h7 hb7 HB6 HAP
  go_wp2
  go_ret
  exact ⟨rfl, HB7.out⟩
end Go.Proofs.Ytipnhpfpppblhaa

/- lychgatelaw09.back, as: contracts. -/
namespace Go.Proofs.Ytipnhpfpppblhaa
open Go.RowKit Go.Maps
set_option maxHeartbeats 1600000 in
set_option maxRecDepth 100000 in
theorem back_full (src : ByteArray) (fl : List Fld) (fv : Value) (lv : Int) (c : Nat) (fr til : Int) (w : World) (hv : FldsAt w fv fl) (hl : fl.length ≤ maxLen) :
    Calls Try.prog 8 #[.agg #[.string src, fv, .int .i64 lv, .int .u32 c, .int .i64 fr, .int .i64 til]] w fun e w' =>
      ∃ fv', e = .returned (.agg #[.string src, fv', .int .i64 lv, .int .u32 c, .int .i64 fr, .int .i64 til]) ∧ FldsAt w fv' (fl.take 12) ∧ (fl.length ≤ 12 → fv' = fv) ∧ (∀ a' c', fv = .slice a' fl.length c' → fv' = .slice a' (fl.take 12).length c') ∧ Below w.heap.size w w' := by
  have hnone : ∀ a c, fv = .slice a fl.length c → a = none → fl.length = 0 := by
    rintro a c rfl rfl
    rcases hv.2 with ⟨_, h⟩ | ⟨ad, c', h1, _⟩
    · exact h
    · cases h1
  obtain ⟨fa, fc, rfl, hfc, _⟩ := RdAt.shape hv
  have hnone := hnone fa fc rfl
  obtain ⟨k, hk, hkl, hmin⟩ : ∃ k : Nat, k ≤ fl.length ∧ fl.take 12 = fl.take k ∧ min (fl.length : Int) 12 = (k : Int) := by
    rcases Nat.le_total fl.length 12 with h | h
    · exact ⟨fl.length, Nat.le_refl _, by rw [List.take_length, List.take_of_length_le h], by omega⟩
    · exact ⟨12, h, rfl, by omega⟩
  have HFT := Lib.hid (fld_take hv k hk hnone)
  have HKL := Lib.hid hkl
  have HKV : Hid (fl.length ≤ 12 → k = fl.length) := Lib.hid (by omega)
  have HKK := Lib.hid hk
  have hkc : k ≤ fc := Nat.le_trans hk hfc
  obtain ⟨W0, hW0⟩ : ∃ z, (w.alloc (.cells #[.string src, .slice fa fl.length fc, .int .i64 lv, .int .u32 c, .int .i64 fr, .int .i64 til] 38)).alloc (.cells #[.string ⟨#[]⟩, .slice none 0 0, .int .i64 0, .int .u32 0, .int .i64 0, .int .i64 0] 36) = z := ⟨_, rfl⟩
  have hb0 : Below w.heap.size w W0 := by rw [← hW0]; exact (alloc_below _ _).trans ((alloc_below _ _).mono (by simp))
  have hd := (Below.refl W0.heap.size W0).drew
  rw [← hW0] at hd
  obtain ⟨h1, h2, h3⟩ := box_cells hd
  have hT := box_there hd
  obtain ⟨h4, _, _⟩ := box_cells h3
  rw [World.size_alloc] at h1 hT
  rw [hW0] at h1 h4 hT
  have q0 := h4 0 _ rfl
  have q1 := h4 1 _ rfl
  have q2 := h4 2 _ rfl
  have q3 := h4 3 _ rfl
  have q4 := h4 4 _ rfl
  have q5 := h4 5 _ rfl
  have r0 := h1 0 _ rfl
  have r1 := h1 1 _ rfl
  have r2 := h1 2 _ rfl
  have r3 := h1 3 _ rfl
  have r4 := h1 4 _ rfl
  have r5 := h1 5 _ rfl
  have f0 := there_free hT 0 (by decide)
  have f1 := there_free hT 1 (by decide)
  have f2 := there_free hT 2 (by decide)
  have f3 := there_free hT 3 (by decide)
  have f4 := there_free hT 4 (by decide)
  have f5 := there_free hT 5 (by decide)
  have HB0 := Lib.hid hb0
  have HT := Lib.hid hT
  have hk63 : k < 9223372036854775807 := by unfold maxLen at hl; omega
  clear hd h1 h2 h3 h4 hT hb0 hv hkl hl
  go_enter Try.func8, Try.ntmps8
  go_upto_region 1 with fail
  try rw [hW0]
  clear hW0
  have hp : ∀ o v, W0.drew.cell? ⟨w.heap.size, o, none⟩ = some v → (W0.drew.setCells (w.heap.size + 1) 0 [.string src, .slice fa k fc, .int .i64 lv, .int .u32 c, .int .i64 fr, .int .i64 til]).cell? ⟨w.heap.size, o, none⟩ = some v := fun o v h => by
    rw [World.cell?_setCells_out _ _ _ _ _ (fun hb _ => by simp at hb)]
    exact h
  refine wp_region_held_drew (S := (fun W => W.cell? ⟨w.heap.size, 0, none⟩ = some (.string src) ∧ W.cell? ⟨w.heap.size, 1, none⟩ = some (.slice fa fl.length fc) ∧ W.cell? ⟨w.heap.size, 2, none⟩ = some (.int .i64 lv) ∧ W.cell? ⟨w.heap.size, 3, none⟩ = some (.int .u32 c) ∧ W.cell? ⟨w.heap.size, 4, none⟩ = some (.int .i64 fr) ∧ W.cell? ⟨w.heap.size, 5, none⟩ = some (.int .i64 til))) (by kernel_rfl) ⟨q0, q1, q2, q3, q4, q5⟩ (fun hHeld => ?_)
  have hbd : Below W0.heap.size W0 W0.drew := (Below.refl _ _).drew
  have HBD := Lib.hid (HB0.out.trans (hbd.mono HB0.out.size))
  clear hbd
  generalize W0.drew = wd at *
  refine held_take (i := 0) (v := ?_) rfl rfl (by kernel_rfl) (by kernel_rfl) (by kernel_rfl) (fun _ _ _ h => h) (by rfl) hHeld ?_ ?_
  rotate_left
  · rintro wh ⟨z0, z1, z2, z3, z4, z5⟩
    go_simp
    (try with_reducible rfl)
  simp only [Act.put, List.setIfInBounds_toArray, List.set_cons_zero, List.set_cons_succ]
  refine held_take (i := 1) (v := ?_) rfl rfl (by kernel_rfl) (by kernel_rfl) (by kernel_rfl) (fun _ _ _ h => h) (by rfl) hHeld ?_ ?_
  rotate_left
  · rintro wh ⟨z0, z1, z2, z3, z4, z5⟩
    go_simp
    (try with_reducible rfl)
  simp only [Act.put, List.setIfInBounds_toArray, List.set_cons_zero, List.set_cons_succ]
  refine held_take (i := 2) (v := ?_) rfl rfl (by kernel_rfl) (by kernel_rfl) (by kernel_rfl) (fun _ _ _ h => h) (by rfl) hHeld ?_ ?_
  rotate_left
  · rintro wh ⟨z0, z1, z2, z3, z4, z5⟩
    go_simp
    (try with_reducible rfl)
  simp only [Act.put, List.setIfInBounds_toArray, List.set_cons_zero, List.set_cons_succ]
  refine held_take (i := 3) (v := ?_) rfl rfl (by kernel_rfl) (by kernel_rfl) (by kernel_rfl) (fun _ _ _ h => h) (by rfl) hHeld ?_ ?_
  rotate_left
  · rintro wh ⟨z0, z1, z2, z3, z4, z5⟩
    go_simp
    (try with_reducible rfl)
  simp only [Act.put, List.setIfInBounds_toArray, List.set_cons_zero, List.set_cons_succ]
  refine held_take (i := 4) (v := ?_) rfl rfl (by kernel_rfl) (by kernel_rfl) (by kernel_rfl) (fun _ _ _ h => h) (by rfl) hHeld ?_ ?_
  rotate_left
  · rintro wh ⟨z0, z1, z2, z3, z4, z5⟩
    go_simp
    (try with_reducible rfl)
  simp only [Act.put, List.setIfInBounds_toArray, List.set_cons_zero, List.set_cons_succ]
  refine held_take (i := 5) (v := ?_) rfl rfl (by kernel_rfl) (by kernel_rfl) (by kernel_rfl) (fun _ _ _ h => h) (by rfl) hHeld ?_ ?_
  rotate_left
  · rintro wh ⟨z0, z1, z2, z3, z4, z5⟩
    go_simp
    (try with_reducible rfl)
  simp only [Act.put, List.setIfInBounds_toArray, List.set_cons_zero, List.set_cons_succ]
  refine held_take (i := 6) (v := ?_) rfl rfl (by kernel_rfl) (by kernel_rfl) (by kernel_rfl) (fun _ _ _ h => h) (by rfl) hHeld ?_ ?_
  rotate_left
  · rintro wh ⟨z0, z1, z2, z3, z4, z5⟩
    go_simp
    (try with_reducible rfl)
  simp only [Act.put, List.setIfInBounds_toArray, List.set_cons_zero, List.set_cons_succ]
  refine held_take (i := 7) (v := ?_) rfl rfl (by kernel_rfl) (by kernel_rfl) (by kernel_rfl) (fun _ _ _ h => h) (by rfl) hHeld ?_ ?_
  rotate_left
  · rintro wh ⟨z0, z1, z2, z3, z4, z5⟩
    go_simp
    (try with_reducible rfl)
  simp only [Act.put, List.setIfInBounds_toArray, List.set_cons_zero, List.set_cons_succ]
  refine held_take (i := 8) (v := ?_) rfl rfl (by kernel_rfl) (by kernel_rfl) (by kernel_rfl) (fun _ _ _ h => h) (by rfl) hHeld ?_ ?_
  rotate_left
  · rintro wh ⟨z0, z1, z2, z3, z4, z5⟩
    go_simp
    (try with_reducible rfl)
  simp only [Act.put, List.setIfInBounds_toArray, List.set_cons_zero, List.set_cons_succ]
  refine held_take (i := 9) (v := ?_) rfl rfl (by kernel_rfl) (by kernel_rfl) (by kernel_rfl) (fun _ _ _ h => h) (by rfl) hHeld ?_ ?_
  rotate_left
  · rintro wh ⟨z0, z1, z2, z3, z4, z5⟩
    go_simp
    (try with_reducible rfl)
  simp only [Act.put, List.setIfInBounds_toArray, List.set_cons_zero, List.set_cons_succ]
  refine held_take (i := 10) (v := ?_) rfl rfl (by kernel_rfl) (by kernel_rfl) (by kernel_rfl) (fun _ _ _ h => h) (by rfl) hHeld ?_ ?_
  rotate_left
  · rintro wh ⟨z0, z1, z2, z3, z4, z5⟩
    go_simp
    (try with_reducible rfl)
  simp only [Act.put, List.setIfInBounds_toArray, List.set_cons_zero, List.set_cons_succ]
  refine held_take (i := 11) (v := ?_) rfl rfl (by kernel_rfl) (by kernel_rfl) (by kernel_rfl) (fun _ _ _ h => h) (by rfl) hHeld ?_ ?_
  rotate_left
  · rintro wh ⟨z0, z1, z2, z3, z4, z5⟩
    go_simp
    (try with_reducible rfl)
  simp only [Act.put, List.setIfInBounds_toArray, List.set_cons_zero, List.set_cons_succ]
  refine held_take (i := 12) (v := ?_) rfl rfl (by kernel_rfl) (by kernel_rfl) (by kernel_rfl) (fun _ _ _ h => h) (by rfl) hHeld ?_ ?_
  rotate_left
  · rintro wh ⟨z0, z1, z2, z3, z4, z5⟩
    go_simp
    (try with_reducible rfl)
  simp only [Act.put, List.setIfInBounds_toArray, List.set_cons_zero, List.set_cons_succ]
  refine held_take (i := 13) (v := ?_) rfl rfl (by kernel_rfl) (by kernel_rfl) (by kernel_rfl) (fun _ _ _ h => h) (by rfl) hHeld ?_ ?_
  rotate_left
  · rintro wh ⟨z0, z1, z2, z3, z4, z5⟩
    go_simp
    (try with_reducible rfl)
  simp only [Act.put, List.setIfInBounds_toArray, List.set_cons_zero, List.set_cons_succ]
  refine held_take (i := 14) (v := ?_) rfl rfl (by kernel_rfl) (by kernel_rfl) (by kernel_rfl) (fun _ _ _ h => h) (by rfl) hHeld ?_ ?_
  rotate_left
  · rintro wh ⟨z0, z1, z2, z3, z4, z5⟩
    go_simp
    (try with_reducible rfl)
  simp only [Act.put, List.setIfInBounds_toArray, List.set_cons_zero, List.set_cons_succ]
  refine held_take (i := 15) (v := ?_) rfl rfl (by kernel_rfl) (by kernel_rfl) (by kernel_rfl) (fun _ _ _ h => h) (by rfl) hHeld ?_ ?_
  rotate_left
  · rintro wh ⟨z0, z1, z2, z3, z4, z5⟩
    go_simp
    (try with_reducible rfl)
  simp only [Act.put, List.setIfInBounds_toArray, List.set_cons_zero, List.set_cons_succ]
  refine held_step (i := 16) rfl (by kernel_rfl) (fun K hK => ?_)
  go_simp
  refine hK.out _ _ ⟨hp _ _ q0, hp _ _ q1, hp _ _ q2, hp _ _ q3, hp _ _ q4, hp _ _ q5⟩ (fun hHeld => ?_)
  clear hK K
  (try simp only [Act.put, List.setIfInBounds_toArray])
  refine wpAnyH_done (by kernel_rfl) ?_ _
  go_wp2
  refine bodyPost_ret (results_agg1 rfl _ _ (w.heap.size + 1) [.string src, .slice fa k fc, .int .i64 lv, .int .u32 c, .int .i64 fr, .int .i64 til] (.struct _) rfl (World.rangeAt_setCells_same wd (w.heap.size + 1) 0 [.string src, .slice fa k fc, .int .i64 lv, .int .u32 c, .int .i64 fr, .int .i64 til] HT.out) Try.underlying36 rfl (by kernel_rfl)) rfl ?_
  exact ⟨_, rfl, by rw [HKL.out]; exact HFT.out, fun h => by rw [HKV.out h], (fun a' c' h => by simp only [Value.slice.injEq] at h; obtain ⟨rfl, _, rfl⟩ := h; rw [HKL.out, List.length_take, Nat.min_eq_left HKK.out]), below_puts (g := w.heap.size + 1) (o := 0) HBD.out (by omega) [.string src, .slice fa k fc, .int .i64 lv, .int .u32 c, .int .i64 fr, .int .i64 til]⟩
theorem back_det (src : ByteArray) (fl : List Fld) (fa : Option Addr) (fc : Nat) (lv : Int) (c : Nat) (fr til : Int) (w : World) (hv : FldsAt w (.slice fa fl.length fc) fl) (hl : fl.length ≤ maxLen) :
    Calls Try.prog 8 #[.agg #[.string src, .slice fa fl.length fc, .int .i64 lv, .int .u32 c, .int .i64 fr, .int .i64 til]] w fun e w' =>
      e = .returned (.agg #[.string src, .slice fa (fl.take 12).length fc, .int .i64 lv, .int .u32 c, .int .i64 fr, .int .i64 til]) ∧ FldsAt w (.slice fa (fl.take 12).length fc) (fl.take 12) ∧ Below w.heap.size w w' := by
  refine (back_full src fl _ lv c fr til w hv hl).mono ?_
  rintro e w' ⟨v, h1, h0, _, h2, h3⟩
  rw [h2 fa fc rfl] at h1 h0
  exact ⟨h1, h0, h3⟩
end Go.Proofs.Ytipnhpfpppblhaa

/- lychgatelaw09.as, lychgateref06.Same, lychgateref09.Same: contracts (out of XRefB). -/
namespace Go.Proofs.Ytipnhpfpppblhaa
open Go.RowKit
set_option maxHeartbeats 1600000 in
set_option maxRecDepth 100000 in
theorem as_any (src : ByteArray) (fa : Option Addr) (fn fc : Nat) (lv : Int) (c : Nat) (fr til : Int) (w : World) :
    Calls Try.prog 9 #[.agg #[.string src, .slice fa fn fc, .int .i64 lv, .int .u32 c, .int .i64 fr, .int .i64 til]] w fun e w' =>
      e = .returned (.agg #[.string src, .slice fa fn fc, .int .i64 lv, .int .u32 c, .int .i64 fr, .int .i64 til]) ∧ Below w.heap.size w w' := by
  obtain ⟨W0, hW0⟩ : ∃ z, (w.alloc (.cells #[.string src, .slice fa fn fc, .int .i64 lv, .int .u32 c, .int .i64 fr, .int .i64 til] 36)).alloc (.cells #[.string ⟨#[]⟩, .slice none 0 0, .int .i64 0, .int .u32 0, .int .i64 0, .int .i64 0] 38) = z := ⟨_, rfl⟩
  have hb0 : Below w.heap.size w W0 := by rw [← hW0]; exact (alloc_below _ _).trans ((alloc_below _ _).mono (by simp))
  have hd := (Below.refl W0.heap.size W0)
  rw [← hW0] at hd
  obtain ⟨h1, h2, h3⟩ := box_cells hd
  have hT := box_there hd
  obtain ⟨h4, _, _⟩ := box_cells h3
  rw [World.size_alloc] at h1 hT
  rw [hW0] at h1 h4 hT
  have q0 := h4 0 _ rfl
  have q1 := h4 1 _ rfl
  have q2 := h4 2 _ rfl
  have q3 := h4 3 _ rfl
  have q4 := h4 4 _ rfl
  have q5 := h4 5 _ rfl
  have f0 := there_free hT 0 (by decide)
  have f1 := there_free hT 1 (by decide)
  have f2 := there_free hT 2 (by decide)
  have f3 := there_free hT 3 (by decide)
  have f4 := there_free hT 4 (by decide)
  have f5 := there_free hT 5 (by decide)
  have r0 := h1 0 _ rfl
  have r1 := h1 1 _ rfl
  have r2 := h1 2 _ rfl
  have r3 := h1 3 _ rfl
  have r4 := h1 4 _ rfl
  have r5 := h1 5 _ rfl
  have HB0 := Lib.hid hb0
  have HT := Lib.hid hT
  have HW0 := Lib.hid hW0
  clear hd h1 h2 h3 h4 hT hb0 hW0
  go_enter Try.func9, Try.ntmps9
  go_upto_region 1 with fail
  rw [HW0.out]
  clear HW0
  go_wp2
  refine bodyPost_ret (results_agg1 rfl _ _ (w.heap.size + 1) [.string src, .slice fa fn fc, .int .i64 lv, .int .u32 c, .int .i64 fr, .int .i64 til] (.struct _) rfl (World.rangeAt_setCells_same W0 (w.heap.size + 1) 0 [.string src, .slice fa fn fc, .int .i64 lv, .int .u32 c, .int .i64 fr, .int .i64 til] HT.out) Try.underlying38 rfl (by kernel_rfl)) rfl ?_
  exact ⟨rfl, below_puts (g := w.heap.size + 1) (o := 0) HB0.out (by omega) [.string src, .slice fa fn fc, .int .i64 lv, .int .u32 c, .int .i64 fr, .int .i64 til]⟩
end Go.Proofs.Ytipnhpfpppblhaa
namespace Go.Proofs.Ytipnhpfpppblhaa
open Go.RowKit
end Go.Proofs.Ytipnhpfpppblhaa
namespace Go.Proofs.Ytipnhpfpppblhaa
open Go.RowKit
end Go.Proofs.Ytipnhpfpppblhaa

/- Arguments that are rows of alerts. -/
namespace Go.Proofs.Ytipnhpfpppblhaa
open Go.RowKit Go.WideShapes Go.ChangeShapes Go.Deep
theorem alCells_eq (l : List (Al × Value)) : alCells l = cellsG (fun p : Al × Value => alC p.1 p.2) l := by
  induction l with
  | nil => rfl
  | cons x l ih => simp only [alCells, cellsG, ih]
instance : Inhabited (Al × Value) := ⟨(⟨⟨#[]⟩, [], 0, 0, 0, 0⟩, undef)⟩
set_option maxRecDepth 100000 in
theorem alsG_of_trod {H : Type} {enc : TypeId × Value → H} {W : World} {n : Nat} {v : Value} {x : DataW H × List MemPlace} (h : DataW.trod enc Try.prog W 0 (fun _ => true) true n 27 [v] = some x) : ∃ l, AlsAt W v l ∧ l.length ≤ maxLen := by
  have hci : Try.prog.cellsOf 3 = 1 := by kernel_rfl
  have hcs : Try.prog.cellsOf 9 = 1 := by kernel_rfl
  have hcl : Try.prog.cellsOf 34 = 2 := by kernel_rfl
  have hcf : Try.prog.cellsOf 31 = 1 := by kernel_rfl
  obtain ⟨l, a, c, hv, h1, h2, h3, h4⟩ := rows_of_trod (fun p : Al × Value => alC p.1 p.2) 6 (fun _ => rfl) (by decide) Try.underlying27 Try.underlying38 (by kernel_rfl) (fun p => FldsAt W p.2 p.1.fl ∧ AlFit p.1) (fun es n hlen hfs => by
    match es, hlen with
    | [e0, e1, e2, e3, e4, e5], _ =>
      obtain ⟨y0, t0⟩ := hfs 0 _ rfl
      obtain ⟨y1, t1⟩ := hfs 1 _ rfl
      obtain ⟨y2, t2⟩ := hfs 2 _ rfl
      obtain ⟨y3, t3⟩ := hfs 3 _ rfl
      obtain ⟨y4, t4⟩ := hfs 4 _ rfl
      obtain ⟨s0, q0, _, z0⟩ := DataW.trod_string Try.underlying9 t0
      obtain ⟨k3, q3, _, _⟩ := DataW.trod_int Try.underlying3 t3
      obtain ⟨k4, q4, _, _⟩ := DataW.trod_int Try.underlying3 t4
      simp [hcs] at q0
      simp [hci] at q3 q4
      subst q0 q3 q4
      have t1' : DataW.trod enc Try.prog W 0 (fun _ => true) true n 31 [e1] = some y1 := by simpa [hcf] using t1
      have t2' : DataW.trod enc Try.prog W 0 (fun _ => true) true n 34 [e2, e3] = some y2 := by simpa [hcl] using t2
      obtain ⟨fl, f1, f2, f3⟩ := flds_of_trod t1'
      obtain ⟨lv, c, r1, r2, hc⟩ := lab_of_trod t2'
      subst r1 r2
      exact ⟨(⟨s0, fl, lv, c, k3, k4⟩, e1), rfl, f1, ⟨z0, f3, f2, hc⟩⟩) h
  exact ⟨l, ⟨by rw [alCells_eq]; exact h3, h4⟩, Nat.le_trans h1 h2⟩
def ArgAls (w : World) (v : Value) (l : List (Al × Value)) : Prop := AlsAt w v l ∧ l.length ≤ maxLen
set_option maxRecDepth 100000 in
theorem alsG_of_arg {H : Type} {enc : TypeId × Value → H} {W : World} {base : Nat} {v : Value} {d : DataW H} {p : List MemPlace} (hval : Value.okWide Try.prog W .any base 27 v) (h : DataW.Trod enc Try.prog W 0 (fun _ => true) true 27 v d p) : ∃ l, ArgAls W v l := by
  obtain ⟨a, n, c, rfl⟩ := okWide_slice Try.underlying27 hval
  obtain ⟨fuel, hf⟩ := h
  exact alsG_of_trod hf
end Go.Proofs.Ytipnhpfpppblhaa

/- AlertApart: the walk. -/
namespace Go.Proofs.Ytipnhpfpppblhaa
open Go.RowKit Go.Maps
theorem fldTake12 {w : World} {a : Option Addr} {c : Nat} {fl : List Fld} (h : FldsAt w (.slice a fl.length c) fl) : FldsAt w (.slice a (fl.take 12).length c) (fl.take 12) := by
  have e : (fl.take 12).length = min fl.length 12 := by rw [List.length_take, Nat.min_comm]
  have e2 : fl.take (min fl.length 12) = fl.take 12 := by
    rcases Nat.le_total fl.length 12 with h1 | h1
    · rw [Nat.min_eq_left h1, List.take_of_length_le h1, List.take_length]
    · rw [Nat.min_eq_right h1]
  have := fld_take h (min fl.length 12) (by omega) (fun ha => by
    rcases h.2 with ⟨_, h0⟩ | ⟨ad, c', h1, _⟩
    · exact h0
    · rw [ha] at h1; cases h1)
  rw [e2] at this
  rw [e]
  exact this
theorem FewAt.later {w W W' : World} {l : List (Al × Value)} {vo vd : Value} {k : Nat} (h : FewAt w l vo vd k W) (hb : Below W.heap.size W W') : FewAt w l vo vd k W' := by
  obtain ⟨h1, l1, a1, a2, a3, a4, a5, a6⟩ := h
  exact ⟨h1.trans (hb.mono h1.size), l1, a1, own_later a2 hb, own_later a3 hb, a4, a5, a6⟩
structure ASt (w : World) (v0 v1 v2 v3 v4 v5 dv : Value) (D : List (Al × Value)) (mo : Nat) (R : List Out) (W : World) : Prop where
  p : C6 w.heap.size v0 v1 v2 v3 v4 v5 W
  d : AlsAt W dv D
  own : W.ownsMap Try.prog 34 R3 mo R.length (DO R)
  u : ∀ o ∈ R, UAt W o.v o.ids
  lt : w.heap.size < W.heap.size
  below : Below w.heap.size w W
theorem ASt.later {w W W' : World} {v0 v1 v2 v3 v4 v5 dv : Value} {D : List (Al × Value)} {mo : Nat} {R : List Out} (h : ASt w v0 v1 v2 v3 v4 v5 dv D mo R W) (hb : Below W.heap.size W W') : ASt w v0 v1 v2 v3 v4 v5 dv D mo R W' :=
  ⟨h.p.later hb h.lt, h.d.later hb, h.own.kept (below_grown hb none) (by simp), fun o ho => (h.u o ho).later hb, Nat.lt_of_lt_of_le h.lt hb.size, h.below.trans (hb.mono h.below.size)⟩
theorem RdAt.keepC {w w' : World} {v : Value} {n k : Nat} {xs : List Value} (h : RdAt w v n k xs) (hk : KeepC w w') (hs : w.heap.size ≤ w'.heap.size) : RdAt w' v n k xs := by
  refine ⟨h.1, ?_⟩
  rcases h.2 with h | ⟨a, c, rfl, hc, hr⟩
  · exact .inl h
  · refine .inr ⟨a, c, rfl, hc, fun hn => ?_⟩
    obtain ⟨b, o, rfl, hlt, hcell⟩ := hr hn
    exact ⟨b, o, rfl, Nat.lt_of_lt_of_le hlt hs, fun j x hx => hk _ _ _ (hcell j x hx)⟩
theorem ASt.next {w W W' : World} {v0 v1 v2 v3 v4 v5 dv : Value} {D : List (Al × Value)} {mo it : Nat} {R : List Out} {left : Lit → Bool} {cnt : Nat} (h : ASt w v0 v1 v2 v3 v4 v5 dv D mo R W) (hrg : W.ranges Try.prog 34 R3 mo it R.length (DO R) left cnt)
    (hg : W.grownBy W' (some it)) (hit : w.heap.size ≤ it) : ASt w v0 v1 v2 v3 v4 v5 dv D mo R W' := by
  have hk : KeepC W W' := fun b _ _ hv => cell_keep hv hg (fun e1 => by
    have := Option.some.inj e1
    subst this
    obtain ⟨_, _, _, _, hr⟩ := ranges_iter hrg
    simp [World.cell?, hr] at hv)
  exact ⟨h.p.keepC hk, ⟨RdAt.keepC h.d.row hk hg.size, fun q hq => ⟨RdAt.keepC (h.d.fld q hq).1 hk hg.size, (h.d.fld q hq).2⟩⟩, h.own.kept hg (fun e1 => ranges_ne hrg h.own (Option.some.inj e1)), fun o ho => (h.u o ho).keepC hk hg.size, Nat.lt_of_lt_of_le h.lt hg.size, h.below.grown hg h.below.size (fun k e1 => by cases e1; exact hit)⟩
def C6' (p o : Nat) (a b c d e f : Value) (W : World) : Prop := W.cell? ⟨p, o, none⟩ = some a ∧ W.cell? ⟨p, o + 1, none⟩ = some b ∧ W.cell? ⟨p, o + 2, none⟩ = some c ∧ W.cell? ⟨p, o + 3, none⟩ = some d ∧ W.cell? ⟨p, o + 4, none⟩ = some e ∧ W.cell? ⟨p, o + 5, none⟩ = some f
namespace lawApart
set_option maxHeartbeats 6400000 in
set_option maxRecDepth 100000 in
theorem walk0 (x : PA) (p : PD) (l : List (Al × Value)) (v : Value) (w : World) (hp : PolAt w (x.pv p) p) (hc : PCap (x.pv p)) (hpf : PolFitD p) (ha : AlsAt w v l) (hl : l.length ≤ maxLen) :
    Calls Try.prog 3 #[(x.pv p).v, v] w fun e w' => e = .returned (.bool true) ∧ Below w.heap.size w w' := by
  have kl := lives_any
  have kc := fun W (h : Below w.heap.size w W) => rcutD_any x p W (hp.later h) hc
  have hq := pol_cut hp
  have hqf := cutD_fit hpf
  have hl63 : l.length ≤ 9223372036854775807 := by unfold maxLen at hl; omega
  generalize p.cut = q at *
  obtain ⟨a0, c0, a1, c1, a2, c2, a3, c3, a4, c4, a5, c5⟩ := x
  dsimp only [PA.pv, PV.v] at *
  have kap := fun D dv W (h : Below w.heap.size w W) (hD : AlsAt W dv D) (h12 : D.length ≤ 12) => apart_any (a0, q.so.length, c0) (a1, q.re.length, c1) (a2, q.pe.length, c2) (a4, q.ro.length, c4) (a5, q.ih.length, c5) q.ra (.slice a3 q.ra.length c3) D dv W (hq.h3.later h) hqf.h3.1 hD h12
  have kat := fun D dv tl tc W (h : Below w.heap.size w W) (hD : AlsAt W dv D) (h12 : D.length ≤ 12) => rat_any (a0, q.so.length, c0) (a1, q.re.length, c1) (a2, q.pe.length, c2) (a4, q.ro.length, c4) (a5, q.ih.length, c5) q.ra (.slice a3 q.ra.length c3) D dv tl tc W (hq.h3.later h) hqf.h3.1 hqf.h3.2.1 hD h12
  have kra := fun nm lv c W (h : Below w.heap.size w W) (hc : c < 4294967296) => rraised_any (a0, q.so.length, c0) (a1, q.re.length, c1) (a2, q.pe.length, c2) (a4, q.ro.length, c4) (a5, q.ih.length, c5) q.ra (.slice a3 q.ra.length c3) nm lv c W (hq.h3.later h) hqf.h3.1 hqf.h3.2.1 hc
  dsimp only [SV] at kap kat kra
  generalize q.ra = rs at *
  generalize p.so.length = n0 at *
  generalize p.re.length = n1 at *
  generalize p.pe.length = n2 at *
  generalize p.ra.length = n3 at *
  generalize p.ro.length = n4 at *
  generalize p.ih.length = n5 at *
  generalize q.so.length = m0 at *
  generalize q.re.length = m1 at *
  generalize q.pe.length = m2 at *
  generalize rs.length = m3 at *
  generalize q.ro.length = m4 at *
  generalize q.ih.length = m5 at *
  have KC := Lib.hid kc
  have KAP := Lib.hid kap
  have KAT := Lib.hid kat
  have KRA := Lib.hid kra
  have HA := Lib.hid ha
  clear kc kap kat kra hp hc hpf ha hq hqf hl
  obtain ⟨W0, hW0⟩ : ∃ z, w.alloc (.cells #[.slice a0 n0 c0, .slice a1 n1 c1, .slice a2 n2 c2, .slice a3 n3 c3, .slice a4 n4 c4, .slice a5 n5 c5] 26) = z := ⟨_, rfl⟩
  have hb0 : Below w.heap.size w W0 := by rw [← hW0]; exact alloc_below _ _
  have hz : w.heap.size < W0.heap.size := by rw [← hW0]; simp
  have hT : W0.there w.heap.size 0 6 := hW0 ▸ box_there (Below.refl _ _)
  have hP : C6 w.heap.size (.slice a0 n0 c0) (.slice a1 n1 c1) (.slice a2 n2 c2) (.slice a3 n3 c3) (.slice a4 n4 c4) (.slice a5 n5 c5) W0 := hW0 ▸ alc6 w _ _ _ _ _ _ _
  have HP := Lib.hid hP
  have HT := Lib.hid hT
  have HB0 := Lib.hid hb0
  have HZ := Lib.hid hz
  have HW0 := Lib.hid hW0
  obtain ⟨va, vc, rfl, _, _⟩ := RdAt.shape HA.out.row
  clear hb0 hz hT hP hW0
  go_enter Try.func3, Try.ntmps3
  go_upto_region 1 with fail
  rw [HW0.out]
  clear HW0
  go_wp2_with fail
  refine (kl _).mono ?_
  rintro e w1 ⟨rfl, hb1⟩
  have HB1 := Lib.hid (HB0.out.trans (hb1.mono HB0.out.size))
  have HT1 := Lib.hid (there_later HT.out hb1 HZ.out)
  have HZ1 := Lib.hid (Nat.lt_of_lt_of_le HZ.out hb1.size)
  obtain ⟨p0, p1, p2, p3, p4, p5⟩ := HP.out.later hb1 HZ.out
  clear hb1 kl HB0 HP HT HZ
  go_wp2_with fail
  refine (KC.out _ HB1.out).mono ?_
  rintro e w2 ⟨rfl, hb2⟩
  have HB2 := Lib.hid (HB1.out.trans (hb2.mono HB1.out.size))
  have HT2 := Lib.hid (there_later HT1.out hb2 HZ1.out)
  have HZ2 := Lib.hid (Nat.lt_of_lt_of_le HZ1.out hb2.size)
  have P0 := keep_cell p0 hb2 HZ1.out
  have P1 := keep_cell p1 hb2 HZ1.out
  have P2 := keep_cell p2 hb2 HZ1.out
  have P3 := keep_cell p3 hb2 HZ1.out
  have P4 := keep_cell p4 hb2 HZ1.out
  have P5 := keep_cell p5 hb2 HZ1.out
  clear hb2 p0 p1 p2 p3 p4 p5 KC HB1 HT1 HZ1
  have f0 := there_free HT2.out 0 (by decide)
  have f1 := there_free HT2.out 1 (by decide)
  have f2 := there_free HT2.out 2 (by decide)
  have f3 := there_free HT2.out 3 (by decide)
  have f4 := there_free HT2.out 4 (by decide)
  have f5 := there_free HT2.out 5 (by decide)
  go_upto_region 4 with fail
  change Code.wp _ _ _ _ (w2.setCells w.heap.size 0 [.slice a0 m0 c0, .slice a1 m1 c1, .slice a2 m2 c2, .slice a3 m3 c3, .slice a4 m4 c4, .slice a5 m5 c5])
  have hP3 := c6_puts w2 w.heap.size (.slice a0 m0 c0) (.slice a1 m1 c1) (.slice a2 m2 c2) (.slice a3 m3 c3) (.slice a4 m4 c4) (.slice a5 m5 c5) HT2.out
  have hB3 := below_puts (g := w.heap.size) (o := 0) HB2.out (Nat.le_refl _) [.slice a0 m0 c0, .slice a1 m1 c1, .slice a2 m2 c2, .slice a3 m3 c3, .slice a4 m4 c4, .slice a5 m5 c5]
  have hZ3 := Nat.lt_of_lt_of_le HZ2.out (below_puts_base (g := w.heap.size) (o := 0) (Below.refl 0 w2) (Nat.zero_le _) [.slice a0 m0 c0, .slice a1 m1 c1, .slice a2 m2 c2, .slice a3 m3 c3, .slice a4 m4 c4, .slice a5 m5 c5]).size
  generalize w2.setCells w.heap.size 0 [.slice a0 m0 c0, .slice a1 m1 c1, .slice a2 m2 c2, .slice a3 m3 c3, .slice a4 m4 c4, .slice a5 m5 c5] = w3 at *
  clear f0 f1 f2 f3 f4 f5 P0 P1 P2 P3 P4 P5 HB2 HT2 HZ2
  have HP3 := Lib.hid hP3
  have HB3 := Lib.hid hB3
  have HZ3 := Lib.hid hZ3
  have HA3 := Lib.hid (HA.out.later hB3)
  obtain ⟨_, _, hva, _, hlr⟩ := RdAt.shape HA3.out.row
  cases hva
  have HLR := Lib.hid hlr
  have HFL := Lib.hid HA3.out.fld
  obtain ⟨i0, hi, hz0, hz1, hz2⟩ := info_parts info_al
  obtain ⟨j0, hj, jz0, jz1, jz2⟩ := info_parts info_ral
  have HI := Lib.hid (And.intro hi (And.intro hz0 (And.intro hz1 hz2)))
  have HJ := Lib.hid (And.intro hj (And.intro jz0 (And.intro jz1 jz2)))
  clear hP3 hB3 hZ3 hlr hi hz0 hz1 hz2 hj jz0 jz1 jz2 HA HA3
  go_wp2
  go_loopw [5, 6, 7] (fun vo vd vi wr => ∃ k : Nat, k ≤ l.length ∧ k ≤ 12 ∧ vi = .int .i64 k ∧ Hid (FewAt w3 l vo vd k wr)) (fun _ _ vi _ => l.length - (intOf vi).toNat)
  case atStart => exact ⟨0, Nat.zero_le _, Nat.zero_le _, rfl, Lib.hid ⟨Below.refl _ _, [], rfl, World.ownsRow_nil _ _ _ _, World.ownsRow_nil _ _ _ _, .inl rfl, rfl, fun p hp => by cases hp⟩⟩
  case round =>
    obtain ⟨k, hk, hk12, rfl, HF⟩ := hrel
    by_cases hkl : k < l.length ∧ k < 12
    · obtain ⟨hkl, hkt⟩ := hkl
      obtain ⟨b, o, rfl, hbl, hcell⟩ := HLR.out (by omega)
      have hat := alCells_at l k hkl
      have hbr := HF.out.b
      obtain ⟨hfk, hfitk⟩ := HFL.out _ (List.getElem_mem hkl)
      obtain ⟨ua, uc, hsh, _, _⟩ := RdAt.shape hfk
      rw [hsh] at hfk hat
      obtain ⟨A, hA⟩ : ∃ A, l[k].1 = A := ⟨_, rfl⟩
      rw [hA] at hat hfk hfitk
      have HAK := Lib.hid hA
      have HFI := Lib.hid hfitk
      obtain ⟨src, fls, alv, ac, afr, atil⟩ := A
      dsimp only at hat hfk
      have HQ : Hid (∀ W, Below w3.heap.size w3 W → C6' b (o + k * 6) (.string src) (.slice ua fls.length uc) (.int .i64 alv) (.int .u32 ac) (.int .i64 afr) (.int .i64 atil) W) := Lib.hid (fun W hW =>
        have q : ∀ i v, (alC ⟨src, fls, alv, ac, afr, atil⟩ (.slice ua fls.length uc))[i]? = some v → W.cell? ⟨b, o + k * 6 + i, none⟩ = some v := fun i v hi => keep_cell (by have := hcell _ _ (hat i v hi); rwa [← Nat.add_assoc] at this) hW hbl
        ⟨q 0 _ rfl, q 1 _ rfl, q 2 _ rfl, q 3 _ rfl, q 4 _ rfl, q 5 _ rfl⟩)
      obtain ⟨q0, q1, q2, q3, q4, q5⟩ := HQ.out _ hbr
      have hcut := fldTake12 hfk
      have kb := fun W (h : Below w3.heap.size w3 W) => back_det src fls ua uc alv ac afr atil W (hfk.later h) hfitk.len
      obtain ⟨m, hm⟩ : ∃ z, (fls.take 12).length = z := ⟨_, rfl⟩
      rw [hm] at kb hcut
      have KB := Lib.hid kb
      have HCU := Lib.hid hcut
      have hki0 : (0 : Int) ≤ (k : Int) := by omega
      have hki1 : (k : Int) < (l.length : Int) := by omega
      clear hcell hat hfk hA hcut hfitk hsh hm kb
      go_wp2_with fail
      refine (KB.out _ hbr).mono ?_
      rintro e wa ⟨rfl, _, hba⟩
      have HFA := Lib.hid (HF.out.later hba)
      clear q0 q1 q2 q3 q4 q5 hbr hba HF
      obtain ⟨hb, l1, hl1, ho, hd, hne, hmap, hfl⟩ := HFA.out
      have hb2 := hb.alloc hb.size (.cells #[.string src, .slice ua m uc, .int .i64 alv, .int .u32 ac, .int .i64 afr, .int .i64 atil] 36)
      have ho2 := ho.alloc (.cells #[.string src, .slice ua m uc, .int .i64 alv, .int .u32 ac, .int .i64 afr, .int .i64 atil] 36)
      have hd2 := hd.alloc (.cells #[.string src, .slice ua m uc, .int .i64 alv, .int .u32 ac, .int .i64 afr, .int .i64 atil] 36)
      have hr2 := row6 wa (.string src) (.slice ua m uc) (.int .i64 alv) (.int .u32 ac) (.int .i64 afr) (.int .i64 atil) 36
      have hs2 := World.size_alloc wa (.cells #[.string src, .slice ua m uc, .int .i64 alv, .int .u32 ac, .int .i64 afr, .int .i64 atil] 36)
      have h1s := all6 (a := .string src) (b := .slice ua m uc) (c := .int .i64 alv) (d := .int .u32 ac) (e := .int .i64 afr) (f := .int .i64 atil) rfl rfl rfl rfl rfl rfl
      obtain ⟨hi, hz0, hz1, hz2⟩ := HI.out
      obtain ⟨hj, jz0, jz1, jz2⟩ := HJ.out
      have P1 := Lib.hid (And.intro ho2 (And.intro hr2 (And.intro hb2 (And.intro hd2 (And.intro hd.lt ho.lt)))))
      have P2 := Lib.hid (And.intro hl1 (And.intro hne (And.intro hmap hfl)))
      have P3 := Lib.hid (And.intro hs2 hb.size)
      clear hb2 ho2 hd2 hr2 hs2 hl1 hne hmap hfl ho hd hb HFA
      go_upto_region 10 with (at_builtin; (refine wpList_append_rd2 rfl (.tmp 27) (.tmp 33) 30 rfl w3.heap.size 36 i0 (.agg #[.string ⟨#[]⟩, .slice none 0 0, .int .i64 0, .int .u32 0, .int .i64 0, .int .i64 0]) 6 72 Try.underlying30 hi hz0 hz1 hz2 rfl (by decide) _ k (alCells l1) rfl P1.out.1 _ 1 [.string src, .slice ua m uc, .int .i64 alv, .int .u32 ac, .int .i64 afr, .int .i64 atil] rfl P1.out.2.1 h1s (by unfold maxLen; omega) (by omega) (by have := P3.out; omega) ?_); intro vo' W4 hown' hgrow' hcase')
      obtain ⟨_, _, hb2, hd2, hdl, hol⟩ := P1.out
      obtain ⟨hl1, hne, hmap, hfl⟩ := P2.out
      obtain ⟨hs2, hbs⟩ := P3.out
      have hd3 := hd2.kept (row := u5.ownBlock) hgrow' (by
        rcases hne with h | h
        · rw [h]
          cases hvb : u6.ownBlock with
          | none => exact .inl rfl
          | some g => right; simp
        · exact .inr (Ne.symm h))
      have hb3 := hb2.grown hgrow' hb2.size (fun j hj => (hol j hj).1)
      have hne3 : vo'.ownBlock = none ∨ vo'.ownBlock ≠ u6.ownBlock := by
        rcases hcase' with h | h
        · rw [h]; exact hne
        · right
          intro e
          rw [h] at e
          have := (hdl _ e.symm).2
          omega
      obtain ⟨q0, q1, q2, q3, q4, q5⟩ := HQ.out _ hb3
      have Q1 := Lib.hid (And.intro hown' (And.intro hd3 (And.intro hne3 hb3)))
      have Q2 := Lib.hid (And.intro hl1 (And.intro hmap hfl))
      clear hb2 hd2 hdl hol hl1 hne hmap hfl hs2 hbs hd3 hb3 hne3 hown' hgrow' hcase' P1 P2 P3
      go_wp2_with fail
      refine (KB.out _ Q1.out.2.2.2).mono ?_
      rintro e wb ⟨rfl, _, hbb⟩
      have HBB := Lib.hid hbb
      clear hbb q0 q1 q2 q3 q4 q5
      go_wp2_with fail
      refine (as_any src ua m uc alv ac afr atil _).mono ?_
      rintro e wd ⟨rfl, hbc⟩
      obtain ⟨ho, hd, hne, hb⟩ := Q1.out
      have hb4c := HBB.out.trans (hbc.mono HBB.out.size)
      have ho5 := own_later ho hb4c
      have hd5 := own_later hd hb4c
      have hb5 := hb.trans (hb4c.mono hb.size)
      have hb6 := hb5.alloc hb5.size (.cells #[.string src, .slice ua m uc, .int .i64 alv, .int .u32 ac, .int .i64 afr, .int .i64 atil] 38)
      have ho6 := ho5.alloc (.cells #[.string src, .slice ua m uc, .int .i64 alv, .int .u32 ac, .int .i64 afr, .int .i64 atil] 38)
      have hd6 := hd5.alloc (.cells #[.string src, .slice ua m uc, .int .i64 alv, .int .u32 ac, .int .i64 afr, .int .i64 atil] 38)
      have hr6 := row6 wd (.string src) (.slice ua m uc) (.int .i64 alv) (.int .u32 ac) (.int .i64 afr) (.int .i64 atil) 38
      have hs6 := World.size_alloc wd (.cells #[.string src, .slice ua m uc, .int .i64 alv, .int .u32 ac, .int .i64 afr, .int .i64 atil] 38)
      have R1 := Lib.hid (And.intro hd6 (And.intro hr6 (And.intro hb6 (And.intro ho6 (And.intro ho5.lt hd5.lt)))))
      have R3 := Lib.hid (And.intro hs6 (And.intro hb5.size hne))
      clear hb6 ho6 hd6 hr6 hs6 ho hd hne hb hb4c ho5 hd5 hb5 hbc HBB Q1
      go_wp2_with (at_builtin; (refine wpList_append_rd2 rfl (.tmp 35) (.tmp 42) 27 rfl w3.heap.size 38 j0 (.agg #[.string ⟨#[]⟩, .slice none 0 0, .int .i64 0, .int .u32 0, .int .i64 0, .int .i64 0]) 6 72 Try.underlying27 hj jz0 jz1 jz2 rfl (by decide) _ k (alCells l1) rfl R1.out.1 _ 1 [.string src, .slice ua m uc, .int .i64 alv, .int .u32 ac, .int .i64 afr, .int .i64 atil] rfl R1.out.2.1 h1s (by unfold maxLen; omega) (by omega) (by have := R3.out.1; have := R3.out.2.1; omega) ?_); intro vd' W5 hown5 hgrow5 hcase5)
      have HN : Hid (FewAt w3 l vo' vd' (k + 1) W5) := by
        obtain ⟨hd6, hr6, hb6, ho6, hol, hdl⟩ := R1.out
        obtain ⟨hs6, hbs, hne⟩ := R3.out
        obtain ⟨hl1, hmap, hfl⟩ := Q2.out
        refine Lib.hid ⟨hb6.grown hgrow5 hb6.size (fun j hj => (hdl j hj).1), l1 ++ [(cutA l[k].1, .slice ua m uc)], by rw [List.length_append, hl1]; rfl, ?_, ?_, ?_, ?_, ?_⟩
        · rw [alC_snoc]; unfold alC cutA; rw [HAK.out]
          exact ho6.kept (row := u6.ownBlock) hgrow5 hne
        · rw [alC_snoc]; unfold alC cutA; rw [HAK.out]; exact hown5
        · rcases hcase5 with h | h
          · rw [h]; exact hne
          · right
            intro e
            rw [h] at e
            have := (hol _ e).2
            omega
        · rw [List.map_append, hmap, List.take_succ_eq_append_getElem hkl, List.map_append]; rfl
        · intro p hp
          rcases List.mem_append.1 hp with h | h
          · exact hfl p h
          · rw [List.mem_singleton.1 h]
            refine ⟨?_, cutA_fit (by rw [HAK.out]; exact HFI.out), rfl⟩
            unfold cutA; rw [HAK.out]; exact HCU.out
      clear R1 R3 Q2 hown5 hgrow5 hcase5
      go_wp2
      go_roundw
      case rel => exact ⟨k + 1, by omega, by omega, by go_num, HN⟩
      case measure => (simp [intOf]; try omega)
    · obtain ⟨hb, l1, hl1, ho, hd, hne, hmap, hfl⟩ := HF.out
      have HO : Hid (AlsAt wr u5 l1) := Lib.hid ⟨by rw [hl1]; exact RdAt.own ho, fun p hp => ⟨(hfl p hp).1.later hb, (hfl p hp).2.1⟩⟩
      have HD : Hid (AlsAt wr u6 l1) := Lib.hid ⟨by rw [hl1]; exact RdAt.own hd, fun p hp => ⟨(hfl p hp).1.later hb, (hfl p hp).2.1⟩⟩
      have H12 : Hid (l1.length ≤ 12) := Lib.hid (by omega)
      have HBW := Lib.hid (HB3.out.trans (hb.mono HB3.out.size))
      have HPW := Lib.hid (HP3.out.later hb HZ3.out)
      have HZW := Lib.hid (Nat.lt_of_lt_of_le HZ3.out hb.size)
      clear hb hl1 ho hd hne hmap hfl HF HP3 HB3 HZ3 HLR HFL HI HJ
      rcases (show k = l.length ∨ (k < l.length ∧ k = 12) by omega) with h | ⟨h, h'⟩
      · obtain rfl := h
        clear hk hk12 hkl
        go_upto_region 11 with fail
        obtain ⟨da, dc, rfl, _, _⟩ := RdAt.shape HD.out.row
        obtain ⟨p0, p1, p2, p3, p4, p5⟩ := HPW.out
        go_wp2_with fail
        refine (KAP.out l1 u5 _ HBW.out HO.out H12.out).mono ?_
        rintro e w5 ⟨mo, R, rfl, hown, hR, honce, hall, hb5⟩
        have HST : Hid (ASt w (.slice a0 m0 c0) (.slice a1 m1 c1) (.slice a2 m2 c2) (.slice a3 m3 c3) (.slice a4 m4 c4) (.slice a5 m5 c5) (.slice da l1.length dc) l1 mo R w5) := Lib.hid ⟨HPW.out.later hb5 HZW.out, HD.out.later hb5, hown, fun o ho => (hR o ho).2.1, Nat.lt_of_lt_of_le HZW.out hb5.size, HBW.out.trans (hb5.mono HBW.out.size)⟩
        have HOWN := Lib.hid hown
        have HWF : Hid (∀ o ∈ R, wfL o.x) := Lib.hid (fun o ho => (hR o ho).1)
        have HIDS : Hid (∀ o ∈ R, o.ids ≠ [] ∧ o.ids = setL (atIds rs (l1.map (·.1)) o.x)) := Lib.hid (fun o ho => ⟨(hR o ho).2.2.2.1, ids_at (hR o ho).2.2.1 (hR o ho).2.2.2.2⟩)
        have HONCE := Lib.hid honce
        have HALL := Lib.hid hall
        clear hown hR honce hall hb5 p0 p1 p2 p3 p4 p5 HO HD HBW HPW HZW KAP
        go_wp2_with (first
          | (at_range; refine wpList_range_own _ rfl _ 40 rfl 34 42 lawL Try.underlying40 R3 mo R.length (DO R) rfl HOWN.out ?_; intro W6 hrg6 hg6 hs6)
          | go_in)
        have hb6 : Below w5.heap.size w5 W6 := ⟨hg6.os, hg6.tape, hg6.output, hg6.size, fun k hk => hg6.block k hk (by simp)⟩
        have HST6 := Lib.hid (HST.out.later hb6)
        have HRG6 := Lib.hid hrg6
        have HIT : Hid (w.heap.size ≤ w5.heap.size) := Lib.hid HST.out.below.size
        clear hb6 hrg6 hg6 hs6 HST HOWN
        generalize w5.heap.size = it at *
        go_frame
        go_wp2
        go_loopw [10] (fun _ wx => ∃ (left : Lit → Bool) (cnt : Nat), Hid (wx.ranges Try.prog 34 R3 mo it R.length (DO R) left cnt) ∧ Hid (ASt w (.slice a0 m0 c0) (.slice a1 m1 c1) (.slice a2 m2 c2) (.slice a3 m3 c3) (.slice a4 m4 c4) (.slice a5 m5 c5) (.slice da l1.length dc) l1 mo R wx)) (fun _ wx => wx.rangeLeft mo it)
        case atStart => exact ⟨_, _, HRG6, HST6⟩
        case round =>
          clear HRG6 HST6
          obtain ⟨left, cnt, HRG, HST⟩ := hrel
          go_wp2_with (first
            | (at_next; refine wpList_next_ranges _ rfl _ rfl 34 lawL R3 LabP mk3 (fun key kl hk => by obtain ⟨x, hx, _⟩ := keyOf_inv hk; exact ⟨x, hx⟩) (fun v y hv => R3_mk hv) mo it R.length _ _ _ rfl HRG.out ?_ ?_)
            | go_in)
          · intro hc0 hl0
            clear hc0 hl0 HRG
            obtain ⟨wo, rfl⟩ : ∃ z, z = wr := ⟨_, rfl⟩
            go_wp2
            go_loopw [11] (fun i wr => ∃ k : Nat, i = .int .i64 k ∧ k ≤ l1.length ∧ Hid (ASt w (.slice a0 m0 c0) (.slice a1 m1 c1) (.slice a2 m2 c2) (.slice a3 m3 c3) (.slice a4 m4 c4) (.slice a5 m5 c5) (.slice da l1.length dc) l1 mo R wr)) (fun i _ => l1.length - (intOf i).toNat)
            case atStart => exact ⟨0, rfl, Nat.zero_le _, HST⟩
            case round =>
              clear HST
              obtain ⟨k, rfl, hk, HST⟩ := hrel
              have hl12 := H12.out
              by_cases hkl : k < l1.length
              · obtain ⟨_, _, hsl, _, hdr⟩ := RdAt.shape HST.out.d.row
                cases hsl
                obtain ⟨b, o, rfl, hbl, hcell⟩ := hdr (by omega)
                have hat := alCells_at l1 k hkl
                obtain ⟨hfk, hfitk⟩ := HST.out.d.fld _ (List.getElem_mem hkl)
                obtain ⟨ua, uc, hsh, _, hfr⟩ := RdAt.shape hfk
                have hmemA : l1[k].1 ∈ l1.map (·.1) := List.mem_map.2 ⟨_, List.getElem_mem hkl, rfl⟩
                rw [hsh] at hfk hat
                obtain ⟨A, hA⟩ : ∃ A, l1[k].1 = A := ⟨_, rfl⟩
                rw [hA] at hat hfk hfitk hfr hmemA hsh
                obtain ⟨src, fl, lv, c, fr, til⟩ := A
                dsimp only at hat hfk hfr
                have HQ : Hid (∀ W, Below wr.heap.size wr W → C6' b (o + k * 6) (.string src) (.slice ua fl.length uc) (.int .i64 lv) (.int .u32 c) (.int .i64 fr) (.int .i64 til) W) := Lib.hid (fun W hW =>
                  have q : ∀ i v, (alC ⟨src, fl, lv, c, fr, til⟩ (.slice ua fl.length uc))[i]? = some v → W.cell? ⟨b, o + k * 6 + i, none⟩ = some v := fun i v hi => keep_cell (by have := hcell _ _ (hat i v hi); rwa [← Nat.add_assoc] at this) hW hbl
                  ⟨q 0 _ rfl, q 1 _ rfl, q 2 _ rfl, q 3 _ rfl, q 4 _ rfl, q 5 _ rfl⟩)
                have krt := r9right_any src fl lv c fr til (.slice ua fl.length uc) wr hfitk.src hfk hfitk.fl hfitk.len
                rw [show (whoA src fl lv && beginsA fr && endsA fr til) = rightA ⟨src, fl, lv, c, fr, til⟩ from rfl] at krt
                have HPUT : Hid (rightA ⟨src, fl, lv, c, fr, til⟩ = true → ∀ t, liesL rs fl (lv, c) t = true → ∃ z ∈ R, z.x = t) := Lib.hid (fun h t ht => HALL.out t _ (mem_puts.2 ⟨_, hmemA, h, ht, rfl⟩))
                have HFR := Lib.hid hfr
                have HCC := Lib.hid hfitk.c
                have HL8 : Hid (rightA ⟨src, fl, lv, c, fr, til⟩ = true → fl.length ≤ 8) := Lib.hid (fun h => (rightF_at (whoA_iff.1 (rightA_who h)).2.2.1).1)
                have hki0 : (0 : Int) ≤ (k : Int) := by omega
                have hki1 : (k : Int) < (l1.length : Int) := by omega
                obtain ⟨q0, q1, q2, q3, q4, q5⟩ := HQ.out _ (Below.refl _ _)
                clear hdr hcell hat hfk hfitk hsh hfr hmemA hA
                cases hr : rightA ⟨src, fl, lv, c, fr, til⟩
                · rw [hr] at krt
                  clear hr HPUT HL8
                  go_wp2_with fail
                  refine krt.mono ?_
                  rintro e w7 ⟨rfl, hb7⟩
                  have HS7 := Lib.hid (HST.out.later hb7)
                  clear hb7 krt q0 q1 q2 q3 q4 q5
                  go_wp2
                  go_roundw
                  case rel => exact ⟨k + 1, by go_num, by omega, HS7⟩
                  case measure => (simp [intOf]; try omega)
                · rw [hr] at krt
                  obtain ⟨z, hz, hzx⟩ := HPUT.out hr _ (lies_self rfl)
                  have hlk : ∀ W, ASt w (.slice a0 m0 c0) (.slice a1 m1 c1) (.slice a2 m2 c2) (.slice a3 m3 c3) (.slice a4 m4 c4) (.slice a5 m5 c5) (.slice (some ⟨b, o, none⟩) l1.length dc) l1 mo R W → (Instr.lookup 40 (.map (some mo)) (.agg #[.int .i64 lv, .int .u32 c]) false).run Try.prog W = .ok (.slice (some ⟨z.b, 0, none⟩) z.ids.length z.c) W := fun W h => by
                    have := look_out h.own HWF.out HONCE.out hz
                    rw [hzx] at this
                    exact this
                  have hz0 : ((z.ids.length : Int) == 0) = false := by
                    rw [beq_eq_false_iff_ne]
                    have := List.length_pos_iff.2 (HIDS.out z hz).1
                    omega
                  have HPU := Lib.hid (HPUT.out hr)
                  have hf8 := HL8.out hr
                  generalize z.b = zb at *
                  generalize z.c = zc at *
                  generalize z.ids.length = zn at *
                  clear hr HPUT HL8 hz hzx
                  go_wp2_with fail
                  refine krt.mono ?_
                  rintro e w7 ⟨rfl, hb7⟩
                  have HS7 := Lib.hid (HST.out.later hb7)
                  have HB7 := Lib.hid hb7
                  clear hb7 krt q0 q1 q2 q3 q4 q5
                  have hlk7 := hlk w7 HS7.out
                  obtain ⟨q0, q1, q2, q3, q4, q5⟩ := HQ.out _ HB7.out
                  clear hlk
                  go_wp2
                  clear hlk7 hz0 q0 q1 q2 q3 q4 q5
                  obtain ⟨wp, rfl⟩ : ∃ y, y = wr := ⟨_, rfl⟩
                  go_loopw [12] (fun i wr => ∃ j : Nat, i = .int .i64 j ∧ j ≤ fl.length ∧ Hid (Below wp.heap.size wp wr) ∧ Hid (ASt w (.slice a0 m0 c0) (.slice a1 m1 c1) (.slice a2 m2 c2) (.slice a3 m3 c3) (.slice a4 m4 c4) (.slice a5 m5 c5) (.slice (some ⟨b, o, none⟩) l1.length dc) l1 mo R wr)) (fun i _ => fl.length - (intOf i).toNat)
                  case atStart => exact ⟨0, rfl, Nat.zero_le _, HB7, HS7⟩
                  case round =>
                    clear HS7 HB7
                    obtain ⟨j, rfl, hj, HBJ, HSJ⟩ := hrel
                    obtain ⟨q0, q1, q2, q3, q4, q5⟩ := HQ.out _ HBJ.out
                    have hblr : b < wr.heap.size := Nat.lt_of_lt_of_le hbl HBJ.out.size
                    by_cases hjl : j < fl.length
                    · obtain ⟨fb, fo, rfl, hfb, hfc⟩ := HFR.out (by omega)
                      obtain ⟨h0, _⟩ := fldCells_at fl j hjl
                      obtain ⟨nm, hnm⟩ : ∃ z, fl[j].1 = z := ⟨_, rfl⟩
                      rw [hnm] at h0
                      have n0' : wr.cell? ⟨fb, fo + j * 2, none⟩ = some (.string nm) := keep_cell (hfc _ _ h0) HBJ.out hfb
                      have hfbr : fb < wr.heap.size := Nat.lt_of_lt_of_le hfb HBJ.out.size
                      obtain ⟨z, hz, hzx⟩ := HPU.out _ (lies_at (f := (lv, c)) hjl rfl)
                      rw [hnm] at hzx
                      obtain ⟨r1, r2, hrr⟩ : ∃ r1 r2, raisedL rs nm (lv, c) = (r1, r2) := ⟨_, _, rfl⟩
                      rw [hrr] at hzx
                      have HLK : Hid (∀ W, ASt w (.slice a0 m0 c0) (.slice a1 m1 c1) (.slice a2 m2 c2) (.slice a3 m3 c3) (.slice a4 m4 c4) (.slice a5 m5 c5) (.slice (some ⟨b, o, none⟩) l1.length dc) l1 mo R W → (Instr.lookup 40 (.map (some mo)) (.agg #[.int .i64 r1, .int .u32 r2]) false).run Try.prog W = .ok (.slice (some ⟨z.b, 0, none⟩) z.ids.length z.c) W) := Lib.hid (fun W h => by
                        have := look_out h.own HWF.out HONCE.out hz
                        rw [hzx] at this
                        exact this)
                      have hz0 : ((z.ids.length : Int) == 0) = false := by
                        rw [beq_eq_false_iff_ne]
                        have := List.length_pos_iff.2 (HIDS.out z hz).1
                        omega
                      have KRJ : Hid (∀ W, Below wr.heap.size wr W → Calls Try.prog 14 #[.agg #[.slice a0 m0 c0, .slice a1 m1 c1, .slice a2 m2 c2, .slice a3 m3 c3, .slice a4 m4 c4, .slice a5 m5 c5], .string nm, .agg #[.int .i64 lv, .int .u32 c]] W fun e w' => e = .returned (.agg #[.int .i64 r1, .int .u32 r2]) ∧ Below W.heap.size W w') := Lib.hid (fun W h => by
                        have := KRA.out nm lv c W (HSJ.out.below.trans (h.mono HSJ.out.below.size)) HCC.out
                        rw [hrr] at this
                        exact this)
                      generalize z.b = zb' at *
                      generalize z.c = zc' at *
                      generalize z.ids.length = zn' at *
                      obtain ⟨p0, p1, p2, p3, p4, p5⟩ := HSJ.out.p
                      have hltp := HSJ.out.lt
                      have lk0 := HLK.out _ (HSJ.out.later ((Below.refl _ _).drew))
                      have hji0 : (0 : Int) ≤ (j : Int) := by omega
                      have hji1 : (j : Int) < (fl.length : Int) := by omega
                      clear h0 hnm hfc hz hzx hrr
                      go_upto_region 26 with fail
                      refine wp_region_held_drew (S := (fun W => W.cell? ⟨w.heap.size, 0, none⟩ = some (.slice a0 m0 c0) ∧ W.cell? ⟨w.heap.size, 1, none⟩ = some (.slice a1 m1 c1) ∧ W.cell? ⟨w.heap.size, 2, none⟩ = some (.slice a2 m2 c2) ∧ W.cell? ⟨w.heap.size, 3, none⟩ = some (.slice a3 m3 c3) ∧ W.cell? ⟨w.heap.size, 4, none⟩ = some (.slice a4 m4 c4) ∧ W.cell? ⟨w.heap.size, 5, none⟩ = some (.slice a5 m5 c5) ∧ W.cell? ⟨b, o + k * 6 + 1, none⟩ = some (.slice (some ⟨fb, fo, none⟩) fl.length uc) ∧ W.cell? ⟨b, o + k * 6 + 2, none⟩ = some (.int .i64 lv) ∧ W.cell? ⟨b, o + k * 6 + 3, none⟩ = some (.int .u32 c) ∧ W.cell? ⟨fb, fo + j * 2, none⟩ = some (.string nm) ∧ (Instr.lookup 40 (.map (some mo)) (.agg #[.int .i64 r1, .int .u32 r2]) false).run Try.prog W = .ok (.slice (some ⟨zb', 0, none⟩) zn' zc') W)) (by kernel_rfl) ⟨p0, p1, p2, p3, p4, p5, q1, q2, q3, n0', lk0⟩ (fun hHeld => ?_)
                      have hd : Below wr.heap.size wr wr.drew := (Below.refl _ _).drew
                      refine held_take (i := 0) (v := ?_) rfl rfl (by kernel_rfl) (by kernel_rfl) (by kernel_rfl) (fun _ _ _ h => h) (by rfl) hHeld ?_ ?_
                      rotate_left
                      · rintro wh ⟨z0, z1, z2, z3, z4, z5, z6, z7, z8, z9, z10⟩
                        go_simp
                        (try with_reducible rfl)
                      simp only [Act.put, List.setIfInBounds_toArray, List.set_cons_zero, List.set_cons_succ]
                      refine held_take (i := 1) (v := ?_) rfl rfl (by kernel_rfl) (by kernel_rfl) (by kernel_rfl) (fun _ _ _ h => h) (by rfl) hHeld ?_ ?_
                      rotate_left
                      · rintro wh ⟨z0, z1, z2, z3, z4, z5, z6, z7, z8, z9, z10⟩
                        go_simp
                        (try with_reducible rfl)
                      simp only [Act.put, List.setIfInBounds_toArray, List.set_cons_zero, List.set_cons_succ]
                      refine held_take (i := 2) (v := ?_) rfl rfl (by kernel_rfl) (by kernel_rfl) (by kernel_rfl) (fun _ _ _ h => h) (by rfl) hHeld ?_ ?_
                      rotate_left
                      · rintro wh ⟨z0, z1, z2, z3, z4, z5, z6, z7, z8, z9, z10⟩
                        go_simp
                        (try with_reducible rfl)
                      simp only [Act.put, List.setIfInBounds_toArray, List.set_cons_zero, List.set_cons_succ]
                      refine held_take (i := 3) (v := ?_) rfl rfl (by kernel_rfl) (by kernel_rfl) (by kernel_rfl) (fun _ _ _ h => h) (by rfl) hHeld ?_ ?_
                      rotate_left
                      · rintro wh ⟨z0, z1, z2, z3, z4, z5, z6, z7, z8, z9, z10⟩
                        go_simp
                        (try with_reducible rfl)
                      simp only [Act.put, List.setIfInBounds_toArray, List.set_cons_zero, List.set_cons_succ]
                      refine held_take (i := 4) (v := ?_) rfl rfl (by kernel_rfl) (by kernel_rfl) (by kernel_rfl) (fun _ _ _ h => h) (by rfl) hHeld ?_ ?_
                      rotate_left
                      · rintro wh ⟨z0, z1, z2, z3, z4, z5, z6, z7, z8, z9, z10⟩
                        go_simp
                        (try with_reducible rfl)
                      simp only [Act.put, List.setIfInBounds_toArray, List.set_cons_zero, List.set_cons_succ]
                      refine held_take (i := 5) (v := ?_) rfl rfl (by kernel_rfl) (by kernel_rfl) (by kernel_rfl) (fun _ _ _ h => h) (by rfl) hHeld ?_ ?_
                      rotate_left
                      · rintro wh ⟨z0, z1, z2, z3, z4, z5, z6, z7, z8, z9, z10⟩
                        go_simp
                        (try with_reducible rfl)
                      simp only [Act.put, List.setIfInBounds_toArray, List.set_cons_zero, List.set_cons_succ]
                      refine held_take (i := 6) (v := ?_) rfl rfl (by kernel_rfl) (by kernel_rfl) (by kernel_rfl) (fun _ _ _ h => h) (by rfl) hHeld ?_ ?_
                      rotate_left
                      · rintro wh ⟨z0, z1, z2, z3, z4, z5, z6, z7, z8, z9, z10⟩
                        go_simp
                        (try with_reducible rfl)
                      simp only [Act.put, List.setIfInBounds_toArray, List.set_cons_zero, List.set_cons_succ]
                      refine held_take (i := 7) (v := ?_) rfl rfl (by kernel_rfl) (by kernel_rfl) (by kernel_rfl) (fun _ _ _ h => h) (by rfl) hHeld ?_ ?_
                      rotate_left
                      · rintro wh ⟨z0, z1, z2, z3, z4, z5, z6, z7, z8, z9, z10⟩
                        go_simp
                        (try with_reducible rfl)
                      simp only [Act.put, List.setIfInBounds_toArray, List.set_cons_zero, List.set_cons_succ]
                      refine held_take (i := 8) (v := ?_) rfl rfl (by kernel_rfl) (by kernel_rfl) (by kernel_rfl) (fun _ _ _ h => h) (by rfl) hHeld ?_ ?_
                      rotate_left
                      · rintro wh ⟨z0, z1, z2, z3, z4, z5, z6, z7, z8, z9, z10⟩
                        go_simp
                        (try with_reducible rfl)
                      simp only [Act.put, List.setIfInBounds_toArray, List.set_cons_zero, List.set_cons_succ]
                      refine held_take (i := 9) (v := ?_) rfl rfl (by kernel_rfl) (by kernel_rfl) (by kernel_rfl) (fun _ _ _ h => h) (by rfl) hHeld ?_ ?_
                      rotate_left
                      · rintro wh ⟨z0, z1, z2, z3, z4, z5, z6, z7, z8, z9, z10⟩
                        go_simp
                        (try with_reducible rfl)
                      simp only [Act.put, List.setIfInBounds_toArray, List.set_cons_zero, List.set_cons_succ]
                      refine held_take (i := 10) (v := ?_) rfl rfl (by kernel_rfl) (by kernel_rfl) (by kernel_rfl) (fun _ _ _ h => h) (by rfl) hHeld ?_ ?_
                      rotate_left
                      · rintro wh ⟨z0, z1, z2, z3, z4, z5, z6, z7, z8, z9, z10⟩
                        go_simp
                        (try with_reducible rfl)
                      simp only [Act.put, List.setIfInBounds_toArray, List.set_cons_zero, List.set_cons_succ]
                      refine held_take (i := 11) (v := ?_) rfl rfl (by kernel_rfl) (by kernel_rfl) (by kernel_rfl) (fun _ _ _ h => h) (by rfl) hHeld ?_ ?_
                      rotate_left
                      · rintro wh ⟨z0, z1, z2, z3, z4, z5, z6, z7, z8, z9, z10⟩
                        go_simp
                        (try with_reducible rfl)
                      simp only [Act.put, List.setIfInBounds_toArray, List.set_cons_zero, List.set_cons_succ]
                      refine held_take (i := 12) (v := ?_) rfl rfl (by kernel_rfl) (by kernel_rfl) (by kernel_rfl) (fun _ _ _ h => h) (by rfl) hHeld ?_ ?_
                      rotate_left
                      · rintro wh ⟨z0, z1, z2, z3, z4, z5, z6, z7, z8, z9, z10⟩
                        go_simp
                        (try with_reducible rfl)
                      simp only [Act.put, List.setIfInBounds_toArray, List.set_cons_zero, List.set_cons_succ]
                      refine held_take (i := 13) (v := ?_) rfl rfl (by kernel_rfl) (by kernel_rfl) (by kernel_rfl) (fun _ _ _ h => h) (by rfl) hHeld ?_ ?_
                      rotate_left
                      · rintro wh ⟨z0, z1, z2, z3, z4, z5, z6, z7, z8, z9, z10⟩
                        go_simp
                        (try with_reducible rfl)
                      simp only [Act.put, List.setIfInBounds_toArray, List.set_cons_zero, List.set_cons_succ]
                      refine held_take (i := 14) (v := ?_) rfl rfl (by kernel_rfl) (by kernel_rfl) (by kernel_rfl) (fun _ _ _ h => h) (by rfl) hHeld ?_ ?_
                      rotate_left
                      · rintro wh ⟨z0, z1, z2, z3, z4, z5, z6, z7, z8, z9, z10⟩
                        go_simp
                        (try with_reducible rfl)
                      simp only [Act.put, List.setIfInBounds_toArray, List.set_cons_zero, List.set_cons_succ]
                      refine held_take (i := 15) (v := ?_) rfl rfl (by kernel_rfl) (by kernel_rfl) (by kernel_rfl) (fun _ _ _ h => h) (by rfl) hHeld ?_ ?_
                      rotate_left
                      · rintro wh ⟨z0, z1, z2, z3, z4, z5, z6, z7, z8, z9, z10⟩
                        go_simp
                        (try with_reducible rfl)
                      simp only [Act.put, List.setIfInBounds_toArray, List.set_cons_zero, List.set_cons_succ]
                      refine held_call (i := 16) rfl (by kernel_rfl) (by rfl) (fun K hK => ?_)
                      (go_simp; go_at_call 14; refine (KRJ.out _ hd).mono ?_; rintro e v9 ⟨rfl, hb9⟩; have hB9 := hd.trans (hb9.mono hd.size))
                      refine hK.out _ _ ⟨keep_cell p0 hB9 hltp, keep_cell p1 hB9 hltp, keep_cell p2 hB9 hltp, keep_cell p3 hB9 hltp, keep_cell p4 hB9 hltp, keep_cell p5 hB9 hltp, keep_cell q1 hB9 hblr, keep_cell q2 hB9 hblr, keep_cell q3 hB9 hblr, keep_cell n0' hB9 hfbr, HLK.out _ (HSJ.out.later hB9)⟩ (fun hHeld => ?_)
                      clear hK K
                      (try simp only [Act.put, List.setIfInBounds_toArray, List.set_cons_zero, List.set_cons_succ])
                      refine held_take (i := 17) (v := ?_) rfl rfl (by kernel_rfl) (by kernel_rfl) (by kernel_rfl) (fun _ _ _ h => h) (by rfl) hHeld ?_ ?_
                      rotate_left
                      · rintro wh ⟨z0, z1, z2, z3, z4, z5, z6, z7, z8, z9, z10⟩
                        go_simp
                        (try with_reducible rfl)
                      simp only [Act.put, List.setIfInBounds_toArray, List.set_cons_zero, List.set_cons_succ]
                      refine held_take (i := 18) (v := ?_) rfl rfl (by kernel_rfl) (by kernel_rfl) (by kernel_rfl) (fun _ _ _ h => h) (by rfl) hHeld ?_ ?_
                      rotate_left
                      · rintro wh ⟨z0, z1, z2, z3, z4, z5, z6, z7, z8, z9, z10⟩
                        go_simp
                        (try with_reducible rfl)
                      simp only [Act.put, List.setIfInBounds_toArray, List.set_cons_zero, List.set_cons_succ]
                      refine held_take (i := 19) (v := ?_) rfl rfl (by kernel_rfl) (by kernel_rfl) (by kernel_rfl) (fun _ _ _ h => h) (by rfl) hHeld ?_ ?_
                      rotate_left
                      · rintro wh ⟨z0, z1, z2, z3, z4, z5, z6, z7, z8, z9, z10⟩
                        go_simp
                        (try with_reducible rfl)
                      simp only [Act.put, List.setIfInBounds_toArray, List.set_cons_zero, List.set_cons_succ]
                      refine wpAnyH_done (by kernel_rfl) ?_ _
                      go_wp2
                      go_roundw
                      case rel => exact ⟨j + 1, by go_num, by omega, Lib.hid (HBJ.out.trans (hB9.mono HBJ.out.size)), Lib.hid (HSJ.out.later hB9)⟩
                      case measure => (simp [intOf]; try omega)
                    · obtain rfl : j = fl.length := by omega
                      clear hj hjl
                      go_wp2
                      go_roundw
                      case rel => exact ⟨k + 1, by go_num, by omega, HSJ⟩
                      case measure => (simp [intOf]; try omega)
              · obtain rfl : k = l1.length := by omega
                clear hk hkl
                have HBF := Lib.hid HST.out.below
                go_wp2
                go_ret
                exact ⟨rfl, HBF.out⟩
          · intro lx cx s1 s2 s3 s4 kl yd yp w7 cnt2 hkey hlk hv hat hrg2 hlt hg2 hs2 hen
            obtain ⟨x', hx', hwx, rfl⟩ := keyOf_inv hkey
            obtain rfl := LabP_inj hx'
            have hmem : (lx, cx) ∈ R.map (·.x) := by
              have := has_true_of_atKey hat
              rw [(DO_has HWF.out hwx).1] at this
              exact of_decide_eq_true this
            obtain ⟨z, hz, hzx⟩ := List.mem_map.1 hmem
            obtain rfl : yd = codeO z := by rw [← hat .nil, ← hzx, DOT_at HWF.out HONCE.out hz]
            have hval := R3_is hv
            rw [hval] at hen ⊢
            have HS7 := Lib.hid (HST.out.next HRG.out hg2 HIT.out)
            have HUZ : Hid (∀ W, ASt w (.slice a0 m0 c0) (.slice a1 m1 c1) (.slice a2 m2 c2) (.slice a3 m3 c3) (.slice a4 m4 c4) (.slice a5 m5 c5) (.slice da l1.length dc) l1 mo R W → UsAt W (.slice (some ⟨z.b, 0, none⟩) z.ids.length z.c) z.ids) := Lib.hid (fun W h => h.u z hz)
            obtain ⟨hz1, hz2⟩ := HIDS.out z hz
            rw [hzx] at hz2
            have hzl : z.ids.length ≤ 12 := by
              rw [hz2]
              have h1 := setL_len (atIds rs (l1.map (·.1)) (lx, cx))
              have h2 := atIds_len rs (l1.map (·.1)) (lx, cx)
              rw [List.length_map] at h2
              have := H12.out
              omega
            have hz0 : ((z.ids.length : Int) == 0) = false := by
              rw [beq_eq_false_iff_ne]
              have := List.length_pos_iff.2 hz1
              omega
            have HZ2 := Lib.hid hz2
            have HLT := Lib.hid hlt
            have HS8 := Lib.hid (HS7.out.later (alloc_below w7 (.cells #[.int .i64 lx, .int .u32 cx] 34)))
            have HRG8 := Lib.hid (hrg2.kept (World.grownBy_alloc w7 (.cells #[.int .i64 lx, .int .u32 cx] 34) none) (by simp) (by simp))
            have y0 : (w7.alloc (.cells #[.int .i64 lx, .int .u32 cx] 34)).cell? ⟨w7.heap.size, 0, none⟩ = some (.int .i64 lx) := World.cell?_alloc_at _ _ _ _ rfl
            have y1 : (w7.alloc (.cells #[.int .i64 lx, .int .u32 cx] 34)).cell? ⟨w7.heap.size, 1, none⟩ = some (.int .u32 cx) := World.cell?_alloc_at _ _ _ _ rfl
            unfold Out.v at hen ⊢
            clear hkey hx' hwx hmem hz hzx hat hv hval hz1 hz2 hrg2 hlt hg2 hs2 hlk HS7 HST
            go_upto_region 15 with fail
            change Code.wp _ _ _ _ (w7.alloc (.cells #[.int .i64 lx, .int .u32 cx] 34))
            clear hen
            generalize w7.alloc (.cells #[.int .i64 lx, .int .u32 cx] 34) = w8 at *
            generalize w7.heap.size = gx at *
            obtain ⟨p0, p1, p2, p3, p4, p5⟩ := HS8.out.p
            go_wp2_with fail
            refine (KAT.out l1 (.slice da l1.length dc) lx cx _ HS8.out.below HS8.out.d H12.out).mono ?_
            rintro e w9 ⟨v', rfl, hU, hb9⟩
            have HS9 := Lib.hid (HS8.out.later hb9)
            have HRG9 := Lib.hid (HRG8.out.kept (below_grown hb9 none) (by simp) (by simp))
            have ks := sameids_any z.ids _ w9 _ v' (HUZ.out _ HS9.out) hU (by unfold maxLen; omega) (by
              rw [← HZ2.out]; unfold maxLen; omega)
            rw [decide_eq_true HZ2.out] at ks
            clear hU hb9 p0 p1 p2 p3 p4 p5 y0 y1 HS8 HRG8
            go_wp2_with fail
            refine ks.mono ?_
            rintro e w10 ⟨rfl, hb10⟩
            have HS10 := Lib.hid (HS9.out.later hb10)
            have HRG10 := Lib.hid (HRG9.out.kept (below_grown hb10 none) (by simp) (by simp))
            clear ks hb10 HS9 HRG9
            go_wp2
            go_roundw
            case rel => exact ⟨_, cnt2, HRG10, HS10⟩
            case measure => rw [HRG10.out.left_eq, HRG.out.left_eq]; exact HLT.out
      · obtain rfl := h'
        have h12 : (12 : Int) < (l.length : Int) := by omega
        clear hk hk12 hkl
        go_upto_region 11 with fail
        clear h12
        obtain ⟨da, dc, rfl, _, _⟩ := RdAt.shape HD.out.row
        obtain ⟨p0, p1, p2, p3, p4, p5⟩ := HPW.out
        go_wp2_with fail
        refine (KAP.out l1 u5 _ HBW.out HO.out H12.out).mono ?_
        rintro e w5 ⟨mo, R, rfl, hown, hR, honce, hall, hb5⟩
        have HST : Hid (ASt w (.slice a0 m0 c0) (.slice a1 m1 c1) (.slice a2 m2 c2) (.slice a3 m3 c3) (.slice a4 m4 c4) (.slice a5 m5 c5) (.slice da l1.length dc) l1 mo R w5) := Lib.hid ⟨HPW.out.later hb5 HZW.out, HD.out.later hb5, hown, fun o ho => (hR o ho).2.1, Nat.lt_of_lt_of_le HZW.out hb5.size, HBW.out.trans (hb5.mono HBW.out.size)⟩
        have HOWN := Lib.hid hown
        have HWF : Hid (∀ o ∈ R, wfL o.x) := Lib.hid (fun o ho => (hR o ho).1)
        have HIDS : Hid (∀ o ∈ R, o.ids ≠ [] ∧ o.ids = setL (atIds rs (l1.map (·.1)) o.x)) := Lib.hid (fun o ho => ⟨(hR o ho).2.2.2.1, ids_at (hR o ho).2.2.1 (hR o ho).2.2.2.2⟩)
        have HONCE := Lib.hid honce
        have HALL := Lib.hid hall
        clear hown hR honce hall hb5 p0 p1 p2 p3 p4 p5 HO HD HBW HPW HZW KAP
        go_wp2_with (first
          | (at_range; refine wpList_range_own _ rfl _ 40 rfl 34 42 lawL Try.underlying40 R3 mo R.length (DO R) rfl HOWN.out ?_; intro W6 hrg6 hg6 hs6)
          | go_in)
        have hb6 : Below w5.heap.size w5 W6 := ⟨hg6.os, hg6.tape, hg6.output, hg6.size, fun k hk => hg6.block k hk (by simp)⟩
        have HST6 := Lib.hid (HST.out.later hb6)
        have HRG6 := Lib.hid hrg6
        have HIT : Hid (w.heap.size ≤ w5.heap.size) := Lib.hid HST.out.below.size
        clear hb6 hrg6 hg6 hs6 HST HOWN
        generalize w5.heap.size = it at *
        go_frame
        go_wp2
        go_loopw [10] (fun _ wx => ∃ (left : Lit → Bool) (cnt : Nat), Hid (wx.ranges Try.prog 34 R3 mo it R.length (DO R) left cnt) ∧ Hid (ASt w (.slice a0 m0 c0) (.slice a1 m1 c1) (.slice a2 m2 c2) (.slice a3 m3 c3) (.slice a4 m4 c4) (.slice a5 m5 c5) (.slice da l1.length dc) l1 mo R wx)) (fun _ wx => wx.rangeLeft mo it)
        case atStart => exact ⟨_, _, HRG6, HST6⟩
        case round =>
          clear HRG6 HST6
          obtain ⟨left, cnt, HRG, HST⟩ := hrel
          go_wp2_with (first
            | (at_next; refine wpList_next_ranges _ rfl _ rfl 34 lawL R3 LabP mk3 (fun key kl hk => by obtain ⟨x, hx, _⟩ := keyOf_inv hk; exact ⟨x, hx⟩) (fun v y hv => R3_mk hv) mo it R.length _ _ _ rfl HRG.out ?_ ?_)
            | go_in)
          · intro hc0 hl0
            clear hc0 hl0 HRG
            obtain ⟨wo, rfl⟩ : ∃ z, z = wr := ⟨_, rfl⟩
            go_wp2
            go_loopw [11] (fun i wr => ∃ k : Nat, i = .int .i64 k ∧ k ≤ l1.length ∧ Hid (ASt w (.slice a0 m0 c0) (.slice a1 m1 c1) (.slice a2 m2 c2) (.slice a3 m3 c3) (.slice a4 m4 c4) (.slice a5 m5 c5) (.slice da l1.length dc) l1 mo R wr)) (fun i _ => l1.length - (intOf i).toNat)
            case atStart => exact ⟨0, rfl, Nat.zero_le _, HST⟩
            case round =>
              clear HST
              obtain ⟨k, rfl, hk, HST⟩ := hrel
              have hl12 := H12.out
              by_cases hkl : k < l1.length
              · obtain ⟨_, _, hsl, _, hdr⟩ := RdAt.shape HST.out.d.row
                cases hsl
                obtain ⟨b, o, rfl, hbl, hcell⟩ := hdr (by omega)
                have hat := alCells_at l1 k hkl
                obtain ⟨hfk, hfitk⟩ := HST.out.d.fld _ (List.getElem_mem hkl)
                obtain ⟨ua, uc, hsh, _, hfr⟩ := RdAt.shape hfk
                have hmemA : l1[k].1 ∈ l1.map (·.1) := List.mem_map.2 ⟨_, List.getElem_mem hkl, rfl⟩
                rw [hsh] at hfk hat
                obtain ⟨A, hA⟩ : ∃ A, l1[k].1 = A := ⟨_, rfl⟩
                rw [hA] at hat hfk hfitk hfr hmemA hsh
                obtain ⟨src, fl, lv, c, fr, til⟩ := A
                dsimp only at hat hfk hfr
                have HQ : Hid (∀ W, Below wr.heap.size wr W → C6' b (o + k * 6) (.string src) (.slice ua fl.length uc) (.int .i64 lv) (.int .u32 c) (.int .i64 fr) (.int .i64 til) W) := Lib.hid (fun W hW =>
                  have q : ∀ i v, (alC ⟨src, fl, lv, c, fr, til⟩ (.slice ua fl.length uc))[i]? = some v → W.cell? ⟨b, o + k * 6 + i, none⟩ = some v := fun i v hi => keep_cell (by have := hcell _ _ (hat i v hi); rwa [← Nat.add_assoc] at this) hW hbl
                  ⟨q 0 _ rfl, q 1 _ rfl, q 2 _ rfl, q 3 _ rfl, q 4 _ rfl, q 5 _ rfl⟩)
                have krt := r9right_any src fl lv c fr til (.slice ua fl.length uc) wr hfitk.src hfk hfitk.fl hfitk.len
                rw [show (whoA src fl lv && beginsA fr && endsA fr til) = rightA ⟨src, fl, lv, c, fr, til⟩ from rfl] at krt
                have HPUT : Hid (rightA ⟨src, fl, lv, c, fr, til⟩ = true → ∀ t, liesL rs fl (lv, c) t = true → ∃ z ∈ R, z.x = t) := Lib.hid (fun h t ht => HALL.out t _ (mem_puts.2 ⟨_, hmemA, h, ht, rfl⟩))
                have HFR := Lib.hid hfr
                have HCC := Lib.hid hfitk.c
                have HL8 : Hid (rightA ⟨src, fl, lv, c, fr, til⟩ = true → fl.length ≤ 8) := Lib.hid (fun h => (rightF_at (whoA_iff.1 (rightA_who h)).2.2.1).1)
                have hki0 : (0 : Int) ≤ (k : Int) := by omega
                have hki1 : (k : Int) < (l1.length : Int) := by omega
                obtain ⟨q0, q1, q2, q3, q4, q5⟩ := HQ.out _ (Below.refl _ _)
                clear hdr hcell hat hfk hfitk hsh hfr hmemA hA
                cases hr : rightA ⟨src, fl, lv, c, fr, til⟩
                · rw [hr] at krt
                  clear hr HPUT HL8
                  go_wp2_with fail
                  refine krt.mono ?_
                  rintro e w7 ⟨rfl, hb7⟩
                  have HS7 := Lib.hid (HST.out.later hb7)
                  clear hb7 krt q0 q1 q2 q3 q4 q5
                  go_wp2
                  go_roundw
                  case rel => exact ⟨k + 1, by go_num, by omega, HS7⟩
                  case measure => (simp [intOf]; try omega)
                · rw [hr] at krt
                  obtain ⟨z, hz, hzx⟩ := HPUT.out hr _ (lies_self rfl)
                  have hlk : ∀ W, ASt w (.slice a0 m0 c0) (.slice a1 m1 c1) (.slice a2 m2 c2) (.slice a3 m3 c3) (.slice a4 m4 c4) (.slice a5 m5 c5) (.slice (some ⟨b, o, none⟩) l1.length dc) l1 mo R W → (Instr.lookup 40 (.map (some mo)) (.agg #[.int .i64 lv, .int .u32 c]) false).run Try.prog W = .ok (.slice (some ⟨z.b, 0, none⟩) z.ids.length z.c) W := fun W h => by
                    have := look_out h.own HWF.out HONCE.out hz
                    rw [hzx] at this
                    exact this
                  have hz0 : ((z.ids.length : Int) == 0) = false := by
                    rw [beq_eq_false_iff_ne]
                    have := List.length_pos_iff.2 (HIDS.out z hz).1
                    omega
                  have HPU := Lib.hid (HPUT.out hr)
                  have hf8 := HL8.out hr
                  generalize z.b = zb at *
                  generalize z.c = zc at *
                  generalize z.ids.length = zn at *
                  clear hr HPUT HL8 hz hzx
                  go_wp2_with fail
                  refine krt.mono ?_
                  rintro e w7 ⟨rfl, hb7⟩
                  have HS7 := Lib.hid (HST.out.later hb7)
                  have HB7 := Lib.hid hb7
                  clear hb7 krt q0 q1 q2 q3 q4 q5
                  have hlk7 := hlk w7 HS7.out
                  obtain ⟨q0, q1, q2, q3, q4, q5⟩ := HQ.out _ HB7.out
                  clear hlk
                  go_wp2
                  clear hlk7 hz0 q0 q1 q2 q3 q4 q5
                  obtain ⟨wp, rfl⟩ : ∃ y, y = wr := ⟨_, rfl⟩
                  go_loopw [12] (fun i wr => ∃ j : Nat, i = .int .i64 j ∧ j ≤ fl.length ∧ Hid (Below wp.heap.size wp wr) ∧ Hid (ASt w (.slice a0 m0 c0) (.slice a1 m1 c1) (.slice a2 m2 c2) (.slice a3 m3 c3) (.slice a4 m4 c4) (.slice a5 m5 c5) (.slice (some ⟨b, o, none⟩) l1.length dc) l1 mo R wr)) (fun i _ => fl.length - (intOf i).toNat)
                  case atStart => exact ⟨0, rfl, Nat.zero_le _, HB7, HS7⟩
                  case round =>
                    clear HS7 HB7
                    obtain ⟨j, rfl, hj, HBJ, HSJ⟩ := hrel
                    obtain ⟨q0, q1, q2, q3, q4, q5⟩ := HQ.out _ HBJ.out
                    have hblr : b < wr.heap.size := Nat.lt_of_lt_of_le hbl HBJ.out.size
                    by_cases hjl : j < fl.length
                    · obtain ⟨fb, fo, rfl, hfb, hfc⟩ := HFR.out (by omega)
                      obtain ⟨h0, _⟩ := fldCells_at fl j hjl
                      obtain ⟨nm, hnm⟩ : ∃ z, fl[j].1 = z := ⟨_, rfl⟩
                      rw [hnm] at h0
                      have n0' : wr.cell? ⟨fb, fo + j * 2, none⟩ = some (.string nm) := keep_cell (hfc _ _ h0) HBJ.out hfb
                      have hfbr : fb < wr.heap.size := Nat.lt_of_lt_of_le hfb HBJ.out.size
                      obtain ⟨z, hz, hzx⟩ := HPU.out _ (lies_at (f := (lv, c)) hjl rfl)
                      rw [hnm] at hzx
                      obtain ⟨r1, r2, hrr⟩ : ∃ r1 r2, raisedL rs nm (lv, c) = (r1, r2) := ⟨_, _, rfl⟩
                      rw [hrr] at hzx
                      have HLK : Hid (∀ W, ASt w (.slice a0 m0 c0) (.slice a1 m1 c1) (.slice a2 m2 c2) (.slice a3 m3 c3) (.slice a4 m4 c4) (.slice a5 m5 c5) (.slice (some ⟨b, o, none⟩) l1.length dc) l1 mo R W → (Instr.lookup 40 (.map (some mo)) (.agg #[.int .i64 r1, .int .u32 r2]) false).run Try.prog W = .ok (.slice (some ⟨z.b, 0, none⟩) z.ids.length z.c) W) := Lib.hid (fun W h => by
                        have := look_out h.own HWF.out HONCE.out hz
                        rw [hzx] at this
                        exact this)
                      have hz0 : ((z.ids.length : Int) == 0) = false := by
                        rw [beq_eq_false_iff_ne]
                        have := List.length_pos_iff.2 (HIDS.out z hz).1
                        omega
                      have KRJ : Hid (∀ W, Below wr.heap.size wr W → Calls Try.prog 14 #[.agg #[.slice a0 m0 c0, .slice a1 m1 c1, .slice a2 m2 c2, .slice a3 m3 c3, .slice a4 m4 c4, .slice a5 m5 c5], .string nm, .agg #[.int .i64 lv, .int .u32 c]] W fun e w' => e = .returned (.agg #[.int .i64 r1, .int .u32 r2]) ∧ Below W.heap.size W w') := Lib.hid (fun W h => by
                        have := KRA.out nm lv c W (HSJ.out.below.trans (h.mono HSJ.out.below.size)) HCC.out
                        rw [hrr] at this
                        exact this)
                      generalize z.b = zb' at *
                      generalize z.c = zc' at *
                      generalize z.ids.length = zn' at *
                      obtain ⟨p0, p1, p2, p3, p4, p5⟩ := HSJ.out.p
                      have hltp := HSJ.out.lt
                      have lk0 := HLK.out _ (HSJ.out.later ((Below.refl _ _).drew))
                      have hji0 : (0 : Int) ≤ (j : Int) := by omega
                      have hji1 : (j : Int) < (fl.length : Int) := by omega
                      clear h0 hnm hfc hz hzx hrr
                      go_upto_region 26 with fail
                      refine wp_region_held_drew (S := (fun W => W.cell? ⟨w.heap.size, 0, none⟩ = some (.slice a0 m0 c0) ∧ W.cell? ⟨w.heap.size, 1, none⟩ = some (.slice a1 m1 c1) ∧ W.cell? ⟨w.heap.size, 2, none⟩ = some (.slice a2 m2 c2) ∧ W.cell? ⟨w.heap.size, 3, none⟩ = some (.slice a3 m3 c3) ∧ W.cell? ⟨w.heap.size, 4, none⟩ = some (.slice a4 m4 c4) ∧ W.cell? ⟨w.heap.size, 5, none⟩ = some (.slice a5 m5 c5) ∧ W.cell? ⟨b, o + k * 6 + 1, none⟩ = some (.slice (some ⟨fb, fo, none⟩) fl.length uc) ∧ W.cell? ⟨b, o + k * 6 + 2, none⟩ = some (.int .i64 lv) ∧ W.cell? ⟨b, o + k * 6 + 3, none⟩ = some (.int .u32 c) ∧ W.cell? ⟨fb, fo + j * 2, none⟩ = some (.string nm) ∧ (Instr.lookup 40 (.map (some mo)) (.agg #[.int .i64 r1, .int .u32 r2]) false).run Try.prog W = .ok (.slice (some ⟨zb', 0, none⟩) zn' zc') W)) (by kernel_rfl) ⟨p0, p1, p2, p3, p4, p5, q1, q2, q3, n0', lk0⟩ (fun hHeld => ?_)
                      have hd : Below wr.heap.size wr wr.drew := (Below.refl _ _).drew
                      refine held_take (i := 0) (v := ?_) rfl rfl (by kernel_rfl) (by kernel_rfl) (by kernel_rfl) (fun _ _ _ h => h) (by rfl) hHeld ?_ ?_
                      rotate_left
                      · rintro wh ⟨z0, z1, z2, z3, z4, z5, z6, z7, z8, z9, z10⟩
                        go_simp
                        (try with_reducible rfl)
                      simp only [Act.put, List.setIfInBounds_toArray, List.set_cons_zero, List.set_cons_succ]
                      refine held_take (i := 1) (v := ?_) rfl rfl (by kernel_rfl) (by kernel_rfl) (by kernel_rfl) (fun _ _ _ h => h) (by rfl) hHeld ?_ ?_
                      rotate_left
                      · rintro wh ⟨z0, z1, z2, z3, z4, z5, z6, z7, z8, z9, z10⟩
                        go_simp
                        (try with_reducible rfl)
                      simp only [Act.put, List.setIfInBounds_toArray, List.set_cons_zero, List.set_cons_succ]
                      refine held_take (i := 2) (v := ?_) rfl rfl (by kernel_rfl) (by kernel_rfl) (by kernel_rfl) (fun _ _ _ h => h) (by rfl) hHeld ?_ ?_
                      rotate_left
                      · rintro wh ⟨z0, z1, z2, z3, z4, z5, z6, z7, z8, z9, z10⟩
                        go_simp
                        (try with_reducible rfl)
                      simp only [Act.put, List.setIfInBounds_toArray, List.set_cons_zero, List.set_cons_succ]
                      refine held_take (i := 3) (v := ?_) rfl rfl (by kernel_rfl) (by kernel_rfl) (by kernel_rfl) (fun _ _ _ h => h) (by rfl) hHeld ?_ ?_
                      rotate_left
                      · rintro wh ⟨z0, z1, z2, z3, z4, z5, z6, z7, z8, z9, z10⟩
                        go_simp
                        (try with_reducible rfl)
                      simp only [Act.put, List.setIfInBounds_toArray, List.set_cons_zero, List.set_cons_succ]
                      refine held_take (i := 4) (v := ?_) rfl rfl (by kernel_rfl) (by kernel_rfl) (by kernel_rfl) (fun _ _ _ h => h) (by rfl) hHeld ?_ ?_
                      rotate_left
                      · rintro wh ⟨z0, z1, z2, z3, z4, z5, z6, z7, z8, z9, z10⟩
                        go_simp
                        (try with_reducible rfl)
                      simp only [Act.put, List.setIfInBounds_toArray, List.set_cons_zero, List.set_cons_succ]
                      refine held_take (i := 5) (v := ?_) rfl rfl (by kernel_rfl) (by kernel_rfl) (by kernel_rfl) (fun _ _ _ h => h) (by rfl) hHeld ?_ ?_
                      rotate_left
                      · rintro wh ⟨z0, z1, z2, z3, z4, z5, z6, z7, z8, z9, z10⟩
                        go_simp
                        (try with_reducible rfl)
                      simp only [Act.put, List.setIfInBounds_toArray, List.set_cons_zero, List.set_cons_succ]
                      refine held_take (i := 6) (v := ?_) rfl rfl (by kernel_rfl) (by kernel_rfl) (by kernel_rfl) (fun _ _ _ h => h) (by rfl) hHeld ?_ ?_
                      rotate_left
                      · rintro wh ⟨z0, z1, z2, z3, z4, z5, z6, z7, z8, z9, z10⟩
                        go_simp
                        (try with_reducible rfl)
                      simp only [Act.put, List.setIfInBounds_toArray, List.set_cons_zero, List.set_cons_succ]
                      refine held_take (i := 7) (v := ?_) rfl rfl (by kernel_rfl) (by kernel_rfl) (by kernel_rfl) (fun _ _ _ h => h) (by rfl) hHeld ?_ ?_
                      rotate_left
                      · rintro wh ⟨z0, z1, z2, z3, z4, z5, z6, z7, z8, z9, z10⟩
                        go_simp
                        (try with_reducible rfl)
                      simp only [Act.put, List.setIfInBounds_toArray, List.set_cons_zero, List.set_cons_succ]
                      refine held_take (i := 8) (v := ?_) rfl rfl (by kernel_rfl) (by kernel_rfl) (by kernel_rfl) (fun _ _ _ h => h) (by rfl) hHeld ?_ ?_
                      rotate_left
                      · rintro wh ⟨z0, z1, z2, z3, z4, z5, z6, z7, z8, z9, z10⟩
                        go_simp
                        (try with_reducible rfl)
                      simp only [Act.put, List.setIfInBounds_toArray, List.set_cons_zero, List.set_cons_succ]
                      refine held_take (i := 9) (v := ?_) rfl rfl (by kernel_rfl) (by kernel_rfl) (by kernel_rfl) (fun _ _ _ h => h) (by rfl) hHeld ?_ ?_
                      rotate_left
                      · rintro wh ⟨z0, z1, z2, z3, z4, z5, z6, z7, z8, z9, z10⟩
                        go_simp
                        (try with_reducible rfl)
                      simp only [Act.put, List.setIfInBounds_toArray, List.set_cons_zero, List.set_cons_succ]
                      refine held_take (i := 10) (v := ?_) rfl rfl (by kernel_rfl) (by kernel_rfl) (by kernel_rfl) (fun _ _ _ h => h) (by rfl) hHeld ?_ ?_
                      rotate_left
                      · rintro wh ⟨z0, z1, z2, z3, z4, z5, z6, z7, z8, z9, z10⟩
                        go_simp
                        (try with_reducible rfl)
                      simp only [Act.put, List.setIfInBounds_toArray, List.set_cons_zero, List.set_cons_succ]
                      refine held_take (i := 11) (v := ?_) rfl rfl (by kernel_rfl) (by kernel_rfl) (by kernel_rfl) (fun _ _ _ h => h) (by rfl) hHeld ?_ ?_
                      rotate_left
                      · rintro wh ⟨z0, z1, z2, z3, z4, z5, z6, z7, z8, z9, z10⟩
                        go_simp
                        (try with_reducible rfl)
                      simp only [Act.put, List.setIfInBounds_toArray, List.set_cons_zero, List.set_cons_succ]
                      refine held_take (i := 12) (v := ?_) rfl rfl (by kernel_rfl) (by kernel_rfl) (by kernel_rfl) (fun _ _ _ h => h) (by rfl) hHeld ?_ ?_
                      rotate_left
                      · rintro wh ⟨z0, z1, z2, z3, z4, z5, z6, z7, z8, z9, z10⟩
                        go_simp
                        (try with_reducible rfl)
                      simp only [Act.put, List.setIfInBounds_toArray, List.set_cons_zero, List.set_cons_succ]
                      refine held_take (i := 13) (v := ?_) rfl rfl (by kernel_rfl) (by kernel_rfl) (by kernel_rfl) (fun _ _ _ h => h) (by rfl) hHeld ?_ ?_
                      rotate_left
                      · rintro wh ⟨z0, z1, z2, z3, z4, z5, z6, z7, z8, z9, z10⟩
                        go_simp
                        (try with_reducible rfl)
                      simp only [Act.put, List.setIfInBounds_toArray, List.set_cons_zero, List.set_cons_succ]
                      refine held_take (i := 14) (v := ?_) rfl rfl (by kernel_rfl) (by kernel_rfl) (by kernel_rfl) (fun _ _ _ h => h) (by rfl) hHeld ?_ ?_
                      rotate_left
                      · rintro wh ⟨z0, z1, z2, z3, z4, z5, z6, z7, z8, z9, z10⟩
                        go_simp
                        (try with_reducible rfl)
                      simp only [Act.put, List.setIfInBounds_toArray, List.set_cons_zero, List.set_cons_succ]
                      refine held_take (i := 15) (v := ?_) rfl rfl (by kernel_rfl) (by kernel_rfl) (by kernel_rfl) (fun _ _ _ h => h) (by rfl) hHeld ?_ ?_
                      rotate_left
                      · rintro wh ⟨z0, z1, z2, z3, z4, z5, z6, z7, z8, z9, z10⟩
                        go_simp
                        (try with_reducible rfl)
                      simp only [Act.put, List.setIfInBounds_toArray, List.set_cons_zero, List.set_cons_succ]
                      refine held_call (i := 16) rfl (by kernel_rfl) (by rfl) (fun K hK => ?_)
                      (go_simp; go_at_call 14; refine (KRJ.out _ hd).mono ?_; rintro e v9 ⟨rfl, hb9⟩; have hB9 := hd.trans (hb9.mono hd.size))
                      refine hK.out _ _ ⟨keep_cell p0 hB9 hltp, keep_cell p1 hB9 hltp, keep_cell p2 hB9 hltp, keep_cell p3 hB9 hltp, keep_cell p4 hB9 hltp, keep_cell p5 hB9 hltp, keep_cell q1 hB9 hblr, keep_cell q2 hB9 hblr, keep_cell q3 hB9 hblr, keep_cell n0' hB9 hfbr, HLK.out _ (HSJ.out.later hB9)⟩ (fun hHeld => ?_)
                      clear hK K
                      (try simp only [Act.put, List.setIfInBounds_toArray, List.set_cons_zero, List.set_cons_succ])
                      refine held_take (i := 17) (v := ?_) rfl rfl (by kernel_rfl) (by kernel_rfl) (by kernel_rfl) (fun _ _ _ h => h) (by rfl) hHeld ?_ ?_
                      rotate_left
                      · rintro wh ⟨z0, z1, z2, z3, z4, z5, z6, z7, z8, z9, z10⟩
                        go_simp
                        (try with_reducible rfl)
                      simp only [Act.put, List.setIfInBounds_toArray, List.set_cons_zero, List.set_cons_succ]
                      refine held_take (i := 18) (v := ?_) rfl rfl (by kernel_rfl) (by kernel_rfl) (by kernel_rfl) (fun _ _ _ h => h) (by rfl) hHeld ?_ ?_
                      rotate_left
                      · rintro wh ⟨z0, z1, z2, z3, z4, z5, z6, z7, z8, z9, z10⟩
                        go_simp
                        (try with_reducible rfl)
                      simp only [Act.put, List.setIfInBounds_toArray, List.set_cons_zero, List.set_cons_succ]
                      refine held_take (i := 19) (v := ?_) rfl rfl (by kernel_rfl) (by kernel_rfl) (by kernel_rfl) (fun _ _ _ h => h) (by rfl) hHeld ?_ ?_
                      rotate_left
                      · rintro wh ⟨z0, z1, z2, z3, z4, z5, z6, z7, z8, z9, z10⟩
                        go_simp
                        (try with_reducible rfl)
                      simp only [Act.put, List.setIfInBounds_toArray, List.set_cons_zero, List.set_cons_succ]
                      refine wpAnyH_done (by kernel_rfl) ?_ _
                      go_wp2
                      go_roundw
                      case rel => exact ⟨j + 1, by go_num, by omega, Lib.hid (HBJ.out.trans (hB9.mono HBJ.out.size)), Lib.hid (HSJ.out.later hB9)⟩
                      case measure => (simp [intOf]; try omega)
                    · obtain rfl : j = fl.length := by omega
                      clear hj hjl
                      go_wp2
                      go_roundw
                      case rel => exact ⟨k + 1, by go_num, by omega, HSJ⟩
                      case measure => (simp [intOf]; try omega)
              · obtain rfl : k = l1.length := by omega
                clear hk hkl
                have HBF := Lib.hid HST.out.below
                go_wp2
                go_ret
                exact ⟨rfl, HBF.out⟩
          · intro lx cx s1 s2 s3 s4 kl yd yp w7 cnt2 hkey hlk hv hat hrg2 hlt hg2 hs2 hen
            obtain ⟨x', hx', hwx, rfl⟩ := keyOf_inv hkey
            obtain rfl := LabP_inj hx'
            have hmem : (lx, cx) ∈ R.map (·.x) := by
              have := has_true_of_atKey hat
              rw [(DO_has HWF.out hwx).1] at this
              exact of_decide_eq_true this
            obtain ⟨z, hz, hzx⟩ := List.mem_map.1 hmem
            obtain rfl : yd = codeO z := by rw [← hat .nil, ← hzx, DOT_at HWF.out HONCE.out hz]
            have hval := R3_is hv
            rw [hval] at hen ⊢
            have HS7 := Lib.hid (HST.out.next HRG.out hg2 HIT.out)
            have HUZ : Hid (∀ W, ASt w (.slice a0 m0 c0) (.slice a1 m1 c1) (.slice a2 m2 c2) (.slice a3 m3 c3) (.slice a4 m4 c4) (.slice a5 m5 c5) (.slice da l1.length dc) l1 mo R W → UsAt W (.slice (some ⟨z.b, 0, none⟩) z.ids.length z.c) z.ids) := Lib.hid (fun W h => h.u z hz)
            obtain ⟨hz1, hz2⟩ := HIDS.out z hz
            rw [hzx] at hz2
            have hzl : z.ids.length ≤ 12 := by
              rw [hz2]
              have h1 := setL_len (atIds rs (l1.map (·.1)) (lx, cx))
              have h2 := atIds_len rs (l1.map (·.1)) (lx, cx)
              rw [List.length_map] at h2
              have := H12.out
              omega
            have hz0 : ((z.ids.length : Int) == 0) = false := by
              rw [beq_eq_false_iff_ne]
              have := List.length_pos_iff.2 hz1
              omega
            have HZ2 := Lib.hid hz2
            have HLT := Lib.hid hlt
            have HS8 := Lib.hid (HS7.out.later (alloc_below w7 (.cells #[.int .i64 lx, .int .u32 cx] 34)))
            have HRG8 := Lib.hid (hrg2.kept (World.grownBy_alloc w7 (.cells #[.int .i64 lx, .int .u32 cx] 34) none) (by simp) (by simp))
            have y0 : (w7.alloc (.cells #[.int .i64 lx, .int .u32 cx] 34)).cell? ⟨w7.heap.size, 0, none⟩ = some (.int .i64 lx) := World.cell?_alloc_at _ _ _ _ rfl
            have y1 : (w7.alloc (.cells #[.int .i64 lx, .int .u32 cx] 34)).cell? ⟨w7.heap.size, 1, none⟩ = some (.int .u32 cx) := World.cell?_alloc_at _ _ _ _ rfl
            unfold Out.v at hen ⊢
            clear hkey hx' hwx hmem hz hzx hat hv hval hz1 hz2 hrg2 hlt hg2 hs2 hlk HS7 HST
            go_upto_region 15 with fail
            change Code.wp _ _ _ _ (w7.alloc (.cells #[.int .i64 lx, .int .u32 cx] 34))
            clear hen
            generalize w7.alloc (.cells #[.int .i64 lx, .int .u32 cx] 34) = w8 at *
            generalize w7.heap.size = gx at *
            obtain ⟨p0, p1, p2, p3, p4, p5⟩ := HS8.out.p
            go_wp2_with fail
            refine (KAT.out l1 (.slice da l1.length dc) lx cx _ HS8.out.below HS8.out.d H12.out).mono ?_
            rintro e w9 ⟨v', rfl, hU, hb9⟩
            have HS9 := Lib.hid (HS8.out.later hb9)
            have HRG9 := Lib.hid (HRG8.out.kept (below_grown hb9 none) (by simp) (by simp))
            have ks := sameids_any z.ids _ w9 _ v' (HUZ.out _ HS9.out) hU (by unfold maxLen; omega) (by
              rw [← HZ2.out]; unfold maxLen; omega)
            rw [decide_eq_true HZ2.out] at ks
            clear hU hb9 p0 p1 p2 p3 p4 p5 y0 y1 HS8 HRG8
            go_wp2_with fail
            refine ks.mono ?_
            rintro e w10 ⟨rfl, hb10⟩
            have HS10 := Lib.hid (HS9.out.later hb10)
            have HRG10 := Lib.hid (HRG9.out.kept (below_grown hb10 none) (by simp) (by simp))
            clear ks hb10 HS9 HRG9
            go_wp2
            go_roundw
            case rel => exact ⟨_, cnt2, HRG10, HS10⟩
            case measure => rw [HRG10.out.left_eq, HRG.out.left_eq]; exact HLT.out
theorem walk (v : Value) (x : PV) (p : PD) (u : Value) (l : List (Al × Value)) (w : World) (h1 : ArgPolC w v x p) (h2 : ArgAls w u l) : Calls Try.prog 3 #[v, u] w fun e w' => e = .returned (.bool true) ∧ Below w.heap.size w w' := by
  obtain ⟨⟨rfl, p2, p3⟩, p4⟩ := h1
  obtain ⟨y, rfl, _⟩ := pol_shape p2
  exact walk0 y p l u w p2 p4 p3 h2.1 h2.2
end lawApart
end Go.Proofs.Ytipnhpfpppblhaa

