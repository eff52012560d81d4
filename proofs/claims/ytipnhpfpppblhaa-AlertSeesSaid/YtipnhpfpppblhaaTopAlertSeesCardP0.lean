/- AlertSees: the card: whatever the arguments, the law returns true and its arguments read as they did. No condition. -/
import Derived.Test.YtipnhpfpppblhaaPatE
import Derived.Defers
import Derived.Test.YtipnhpfpppblhaaShelf
import Derived.Test.YtipnhpfpppblhaaPatM
import Derived.Test.YtipnhpfpppblhaaAppRd
import Derived.Maps.OwnOps
import Derived.Maps.Ext
import Derived.Sort.OwnSorted
import Derived.Lib.ConvBytes
import Derived.Test.YtipnhpfpppblhaaFields
import Derived.Shelf.SlicesQ.IndexFunc
import Derived.Test.YtipnhpfpppblhaaRd
import Derived.Test.YtipnhpfpppblhaaRefJ
import Derived.Test.YtipnhpfpppblhaaName
import Derived.Test.YtipnhpfpppblhaaRefFl
import Derived.Test.YtipnhpfpppblhaaAlCut
import Derived.Test.YtipnhpfpppblhaaAls
import Derived.Test.YtipnhpfpppblhaaHeldT
import Derived.Deep.MidRow
import Derived.Test.YtipnhpfpppblhaaRows
import Derived.Test.YtipnhpfpppblhaaPatB
import Derived.Test.YtipnhpfpppblhaaBox3
import Derived.WalkKit
import Derived.WalkSpells
import Derived.WalkLawsBesides
import Derived.BigQuiet
import Derived.Deep.QuietTactic
import Derived.Lib.Hide
import Derived.Deep.DeepCutAuto
import Derived.Laws.Tables
import Derived.Test.YtipnhpfpppblhaaHeldS
import Derived.Great.BuildSlice

/- pattern's sets of bytes: add, turn, has: contracts. -/
namespace Go.Proofs.Ytipnhpfpppblhaa
open Go.RowKit
end Go.Proofs.Ytipnhpfpppblhaa

/- pattern's builder: sign: a contract. -/
namespace Go.Proofs.Ytipnhpfpppblhaa
open Go.RowKit
end Go.Proofs.Ytipnhpfpppblhaa

/- pattern's builder: class: a contract. -/
namespace Go.Proofs.Ytipnhpfpppblhaa
open Go.RowKit
def posAt (w : World) (g : Nat) : Nat := match w.cell? ⟨g, 1, none⟩ with
  | some (.int _ n) => n.toNat
  | _ => 0
end Go.Proofs.Ytipnhpfpppblhaa

/- pattern's builder beside boxes of the caller's: what is carried from call to call. -/
namespace Go.Proofs.Ytipnhpfpppblhaa
open Go.RowKit
end Go.Proofs.Ytipnhpfpppblhaa

/- pattern's builder: times: a contract. -/
namespace Go.Proofs.Ytipnhpfpppblhaa
open Go.RowKit
end Go.Proofs.Ytipnhpfpppblhaa

/- pattern's builder: atom: a contract, out of either's. -/
namespace Go.Proofs.Ytipnhpfpppblhaa
open Go.RowKit
end Go.Proofs.Ytipnhpfpppblhaa

/- pattern's builder: row, either: contracts; the three together. -/
namespace Go.Proofs.Ytipnhpfpppblhaa
open Go.RowKit
end Go.Proofs.Ytipnhpfpppblhaa

/- pattern.Read, pattern.Right: contracts. -/
namespace Go.Proofs.Ytipnhpfpppblhaa
open Go.RowKit
def bs0 : Bs := ⟨0, 0, []⟩
def runR (s : ByteArray) : Bs × (Nat × Nat) := runM s (8 * s.size + 5) .either 0 bs0
def endR (s : ByteArray) : Bs := if (runR s).1.pos < s.size then failM (runR s).1 2 else (runR s).1
def errM (s : ByteArray) : Int := if 100 < s.size then 4 else (endR s).err
end Go.Proofs.Ytipnhpfpppblhaa

/- Going on without a byte, said plainly; the builder's states are well made. No program in sight. -/
namespace Go.Proofs.Ytipnhpfpppblhaa
def frees (sts : List St) (k : Nat) : List Nat := match sts[k]? with
  | some x => x.free
  | none => []
inductive FR (sts : List St) : Nat → Nat → Prop
  | refl (k : Nat) : FR sts k k
  | step {j k f : Nat} : FR sts j k → f ∈ frees sts k → FR sts j f
def Cl (sts : List St) (l : List Nat) (k : Nat) : Prop := ∃ j ∈ l, FR sts j k
def SWf (sts : List St) : Prop := ∀ x ∈ sts, (∀ f ∈ x.free, f < sts.length) ∧ x.next < sts.length
theorem frees_lt {sts : List St} (h : SWf sts) {k f : Nat} (hf : f ∈ frees sts k) : f < sts.length := by
  unfold frees at hf
  split at hf
  · rename_i x hx
    exact (h x (List.mem_of_getElem? hx)).1 f hf
  · cases hf
theorem frees_len (sts : List St) (k : Nat) : (frees sts k).length ≤ tot sts := by
  unfold frees
  split
  · rename_i x hx
    exact free_tot sts x (List.mem_of_getElem? hx)
  · simp
structure ReInv (sts : List St) (l out todo : List Nat) : Prop where
  nd : out.Nodup
  so : ∀ k ∈ out, Cl sts l k
  st : ∀ k ∈ todo, Cl sts l k
  c1 : ∀ j ∈ l, j ∈ out ∨ j ∈ todo
  c2 : ∀ k ∈ out, ∀ f ∈ frees sts k, f ∈ out ∨ f ∈ todo
  bo : ∀ k ∈ out, k < sts.length
  bt : ∀ k ∈ todo, k < sts.length
theorem ReInv.start (sts : List St) (l : List Nat) (hl : ∀ j ∈ l, j < sts.length) : ReInv sts l [] l :=
  ⟨List.nodup_nil, (fun _ h => by cases h), fun k h => ⟨k, h, .refl k⟩, fun _ h => .inr h, (fun _ h => by cases h), (fun _ h => by cases h), hl⟩
theorem ReInv.done {sts : List St} {l out : List Nat} (h : ReInv sts l out []) (k : Nat) : k ∈ out ↔ Cl sts l k := by
  refine ⟨h.so k, ?_⟩
  rintro ⟨j, hj, hr⟩
  induction hr with
  | refl => rcases h.c1 j hj with h1 | h1; (· exact h1); (· cases h1)
  | step _ hf ih => rcases h.c2 _ ih _ hf with h1 | h1; (· exact h1); (· cases h1)
theorem ReInv.seen {sts : List St} {l out t : List Nat} {k : Nat} (h : ReInv sts l out (t ++ [k])) (hk : k ∈ out) : ReInv sts l out t := by
  have key : ∀ x, x ∈ t ++ [k] → x ∈ out ∨ x ∈ t := fun x hx => by
    rcases List.mem_append.1 hx with h1 | h1
    · exact .inr h1
    · rw [List.mem_singleton.1 h1]; exact .inl hk
  refine ⟨h.nd, h.so, fun x hx => h.st x (List.mem_append_left _ hx), fun j hj => ?_, fun x hx f hf => ?_, h.bo, fun x hx => h.bt x (List.mem_append_left _ hx)⟩
  · rcases h.c1 j hj with h1 | h1
    · exact .inl h1
    · exact key j h1
  · rcases h.c2 x hx f hf with h1 | h1
    · exact .inl h1
    · exact key f h1
theorem ReInv.new {sts : List St} {l out t : List Nat} {k : Nat} (hw : SWf sts) (h : ReInv sts l out (t ++ [k])) (hk : k ∉ out) : ReInv sts l (out ++ [k]) (t ++ frees sts k) := by
  have hkt : k ∈ t ++ [k] := List.mem_append_right _ (List.mem_singleton.2 rfl)
  have key : ∀ x, x ∈ t ++ [k] → x ∈ out ++ [k] ∨ x ∈ t ++ frees sts k := fun x hx => by
    rcases List.mem_append.1 hx with h1 | h1
    · exact .inr (List.mem_append_left _ h1)
    · exact .inl (List.mem_append_right _ h1)
  refine ⟨?_, ?_, ?_, ?_, ?_, ?_, ?_⟩
  · refine List.nodup_append.2 ⟨h.nd, by simp, fun a ha b hb => ?_⟩
    rw [List.mem_singleton.1 hb]
    exact fun e => hk (e ▸ ha)
  · intro x hx
    rcases List.mem_append.1 hx with h1 | h1
    · exact h.so x h1
    · rw [List.mem_singleton.1 h1]; exact h.st k hkt
  · intro x hx
    rcases List.mem_append.1 hx with h1 | h1
    · exact h.st x (List.mem_append_left _ h1)
    · obtain ⟨j, hj, hr⟩ := h.st k hkt
      exact ⟨j, hj, .step hr h1⟩
  · intro j hj
    rcases h.c1 j hj with h1 | h1
    · exact .inl (List.mem_append_left _ h1)
    · exact key j h1
  · intro x hx f hf
    rcases List.mem_append.1 hx with h1 | h1
    · rcases h.c2 x h1 f hf with h2 | h2
      · exact .inl (List.mem_append_left _ h2)
      · exact key f h2
    · rw [List.mem_singleton.1 h1] at hf
      exact .inr (List.mem_append_right _ hf)
  · intro x hx
    rcases List.mem_append.1 hx with h1 | h1
    · exact h.bo x h1
    · rw [List.mem_singleton.1 h1]; exact h.bt k hkt
  · intro x hx
    rcases List.mem_append.1 hx with h1 | h1
    · exact h.bt x (List.mem_append_left _ h1)
    · exact frees_lt hw h1
/-! the builder's states are well made -/
end Go.Proofs.Ytipnhpfpppblhaa

/- pattern's reach: a contract. -/
namespace Go.Proofs.Ytipnhpfpppblhaa
open Go.RowKit Go.Sort Go.Maps
/-! slices of ints: what a sort leaves -/
/-! a set of numbers, as a map of bools -/
def SeenAt (w : World) (b n : Nat) (S : Nat → Bool) : Prop := ∃ D : DataW Unit, w.ownsMap Try.prog 3 (plainElem Try.prog 4) b n D ∧ IsMap D ∧ ∀ k : Nat, D.atKey (.int .i64 k) (.lit (.bool false)) = .lit (.bool (S k))
theorem SeenAt.made (w : World) : SeenAt (w.alloc (.map #[] 0)) w.heap.size 0 (fun _ => false) := ⟨.map [], World.ownsMap_made _ _ _ _, isMap_empty, fun _ => rfl⟩
theorem SeenAt.lt {w : World} {b n : Nat} {S : Nat → Bool} (h : SeenAt w b n S) : b < w.heap.size := by
  obtain ⟨D, h, _⟩ := h
  exact h.lt
theorem SeenAt.kept {w w' : World} {b n : Nat} {S : Nat → Bool} {row : Option Nat} (h : SeenAt w b n S) (hg : w.grownBy w' row) (hne : some b ≠ row) : SeenAt w' b n S := by
  obtain ⟨D, h1, h2⟩ := h
  exact ⟨D, h1.kept hg hne, h2⟩
theorem SeenAt.put {w' : World} {b n : Nat} {D : DataW Unit} {S : Nat → Bool} (hD : IsMap D) (hS : ∀ k : Nat, D.atKey (.int .i64 k) (.lit (.bool false)) = .lit (.bool (S k))) (k : Nat) (h : w'.ownsMap Try.prog 3 (plainElem Try.prog 4) b n (D.put (.int .i64 (k : Int)) (.lit (.bool true)))) : SeenAt w' b n (fun j => S j || decide (j = k)) := by
  refine ⟨_, h, hD.put _ _, fun j => ?_⟩
  by_cases hj : j = k
  · subst hj
    rw [atKey_put_same hD (show WideAt.IsKeyLit (.int .i64 (j : Int)) from trivial)]; simp
  · rw [atKey_put_other (by simp; omega), hS j]; simp [hj]
theorem wpList_append_rd2 {P : Program} {w : World} {ops : Array Oper} {rest : List Oper} {o : Oper} {a : Act} {Q : Exit → Act → World → Prop} (hgd : o.guard = none) (s x : Operand) (t : TypeId)
    (ho : o.op = .call { callee := .builtin .append, args := #[s, x], argTypes := #[t, t] })
    (base : Nat) (e : TypeId) (i : TypeInfo) (z : Value) (size bytes : Nat) (ht : P.underlying t = some (.slice e)) (hi : P.info? e = some i) (hz : i.zero = some z)
    (hsize : i.size = size) (hby : i.bytes = bytes) (hzs : z.cells.size = size) (hsz : 0 < size)
    (v : Value) (n : Nat) (xs : List Value) (hs : a.eval s = v) (hown : w.ownsRow base e size v n xs)
    (u : Value) (m : Nat) (news : List Value) (hx : a.eval x = u) (hu : RdAt w u m size news) (h1 : ∀ y ∈ news, y.oneCell' = true)
    (h63 : n + m ≤ maxLen) (hbytes : (n + m) * bytes ≤ 140737488355328) (hbase : base ≤ w.heap.size)
    (h : ∀ v' w', w'.ownsRow base e size v' (n + m) (xs ++ news) → w.grownBy w' v.ownBlock → (v'.ownBlock = v.ownBlock ∨ v'.ownBlock = some w.heap.size) → wpList P ops Q rest (a.put o.dst v') w') : wpList P ops Q (o :: rest) a w := by
  refine wpList_plain hgd fun K hK => ?_
  obtain ⟨v', w', hr, h2, h3, h4⟩ := run_append_rd (P := P) w t o.type base e i z size bytes ht hi hz hsize hby hzs hsz v n xs hown u m news hu h1 h63 hbytes hbase
  unfold Oper.wp execOp
  simp only [ho, resolve, invoke, builtin, Sem.run_bind, Sem.run_pure, Result.andThen_ok, List.map_toArray, List.map_cons, List.map_nil, hs, hx, hr]
  exact hK _ _ (h v' w' h2 h3 h4)
structure ReAt (w : World) (m : Nat) (sts : List St) (l out todo : List Nat) (vo vt : Value) (wr : World) : Prop where
  ge : w.heap.size ≤ m
  below : Below w.heap.size w wr
  inv : ReInv sts l out todo
  seen : ∃ n, n ≤ out.length ∧ SeenAt wr m n (fun k => decide (k ∈ out))
  ro : wr.ownsRow w.heap.size 3 1 vo out.length (freeC out)
  rt : wr.ownsRow w.heap.size 3 1 vt todo.length (freeC todo)
  mo : vo.ownBlock ≠ some m
  mt : vt.ownBlock ≠ some m
  ot : vo.ownBlock = none ∨ vo.ownBlock ≠ vt.ownBlock
  len : todo.length ≤ l.length + out.length * tot sts
theorem freeC_snoc (l : List Nat) (k : Nat) : freeC (l ++ [k]) = freeC l ++ [.int .i64 k] := by simp [freeC]
theorem freeC_app (l r : List Nat) : freeC (l ++ r) = freeC l ++ freeC r := by simp [freeC]
theorem own_lt {w : World} {base : Nat} {e : TypeId} {size : Nat} {v : Value} {n : Nat} {xs : List Value} (h : w.ownsRow base e size v n xs) {k : Nat} (hk : v.ownBlock = some k) : k < w.heap.size := (h.lt k hk).2
theorem ReAt.more {w : World} {m : Nat} {sts : List St} {l out t : List Nat} {k gt tc go oc : Nat} {vo vt' : Value} {wr w1 w2 w3 : World} {o : Obj} (hw : SWf sts) (h : ReAt w m sts l out (t ++ [k]) vo (.slice (some ⟨gt, 0, none⟩) (t.length + 1) tc) wr) (hk : k ∉ out)
    (n : Nat) (hn : n ≤ out.length) (hs1 : SeenAt w1 m (n + 1) (fun j => decide (j ∈ out) || decide (j = k))) (hg1 : wr.grownBy w1 (some m))
    (ho2 : w2.ownsRow w.heap.size 3 1 (.slice (some ⟨go, 0, none⟩) (out.length + 1) oc) (out.length + 1) (freeC out ++ [.int .i64 k])) (hg2 : (w1.alloc o).grownBy w2 vo.ownBlock) (ha2 : vo.ownBlock = some go ∨ go = w1.heap.size + 1)
    (hr3 : w3.ownsRow w.heap.size 3 1 vt' (t.length + (frees sts k).length) (freeC t ++ freeC (frees sts k))) (hg3 : w2.grownBy w3 (some gt)) (ha3 : vt'.ownBlock = some gt ∨ vt'.ownBlock = some w2.heap.size) :
    ReAt w m sts l (out ++ [k]) (t ++ frees sts k) (.slice (some ⟨go, 0, none⟩) (out.length + 1) oc) vt' w3 := by
  have hgm := (own_lt h.rt rfl : gt < wr.heap.size)
  obtain ⟨n0, _, hs0⟩ := h.seen
  have hml := hs0.lt
  have hg1s := hg1.size
  have hg2s : w1.heap.size + 1 ≤ w2.heap.size := by have := hg2.size; rw [World.size_alloc] at this; exact this
  have hgom : go ≠ m := by
    rcases ha2 with e | e
    · exact fun e' => h.mo (e' ▸ e)
    · omega
  have hgt : gt ≠ m := fun e => h.mt (by rw [← e]; rfl)
  have hgog : go ≠ gt := by
    rcases ha2 with e | e
    · rcases h.ot with h1 | h1
      · rw [h1] at e; cases e
      · exact fun e' => h1 (by rw [e, e']; rfl)
    · omega
  have hvom : vo.ownBlock ≠ some m := h.mo
  have hbase : ∀ j, (Value.slice (some ⟨gt, 0, none⟩) (t.length + 1) tc).ownBlock = some j → w.heap.size ≤ j := fun j e => (h.rt.lt j e).1
  have b1 : Below w.heap.size w w1 := h.below.grown hg1 h.below.size (fun j e => by cases e; exact h.ge)
  have b1' : Below w.heap.size w (w1.alloc o) := b1.alloc b1.size o
  have b2 : Below w.heap.size w w2 := b1'.grown hg2 b1'.size (fun j e => (h.ro.lt j e).1)
  have b3 : Below w.heap.size w w3 := b2.grown hg3 b2.size (fun j e => by cases e; exact hbase gt rfl)
  refine ⟨h.ge, b3, h.inv.new hw hk, ⟨n + 1, by simp; omega, ?_⟩, ?_, ?_, ?_, ?_, ?_, ?_⟩
  · have hs2 : SeenAt w2 m (n + 1) (fun j => decide (j ∈ out) || decide (j = k)) := SeenAt.kept (row := vo.ownBlock) (SeenAt.kept (row := none) hs1 (World.grownBy_alloc w1 o none) (by simp)) hg2 (fun e => hvom e.symm)
    have hs3 := SeenAt.kept (row := some gt) hs2 hg3 (fun e => hgt (Option.some.inj e).symm)
    have hf : (fun j => decide (j ∈ out ++ [k])) = (fun j => decide (j ∈ out) || decide (j = k)) := by
      funext j
      rw [Bool.eq_iff_iff]
      simp
    rw [hf]
    exact hs3
  · rw [List.length_append, freeC_snoc]
    exact ho2.kept hg3 (.inr (fun e => hgog (Option.some.inj e)))
  · rw [List.length_append, freeC_app]
    exact hr3
  · exact fun e => hgom (Option.some.inj e)
  · rcases ha3 with e | e
    · rw [e]; exact fun e' => hgt (Option.some.inj e')
    · rw [e]; exact fun e' => by have := Option.some.inj e'; omega
  · refine .inr (fun e => ?_)
    rcases ha3 with e' | e'
    · rw [e'] at e; exact hgog (Option.some.inj e)
    · rw [e'] at e
      have h5 : go = w2.heap.size := Option.some.inj e
      have h4 := own_lt ho2 (k := go) rfl
      omega
  · have h1 := h.len
    have h2 := frees_len sts k
    simp only [List.length_append, List.length_cons, List.length_nil] at h1 ⊢
    rw [Nat.add_mul]
    omega
end Go.Proofs.Ytipnhpfpppblhaa

/- pattern's step: a contract. -/
namespace Go.Proofs.Ytipnhpfpppblhaa
open Go.RowKit
/-! plain: one byte on -/
def goB (x : St) (c : Nat) : Bool := match x.set with
  | some f => f c
  | none => false
end Go.Proofs.Ytipnhpfpppblhaa

/- pattern's Fits, of a pattern and of a text: contracts. -/
namespace Go.Proofs.Ytipnhpfpppblhaa
open Go.RowKit
/-! plain: the states behind some bytes -/
inductive Rn (sts : List St) (st : Nat) : List Nat → Nat → Prop
  | start {k : Nat} : FR sts st k → Rn sts st [] k
  | byte {cs : List Nat} {c j k : Nat} {x : St} : Rn sts st cs j → sts[j]? = some x → goB x c = true → FR sts x.next k → Rn sts st (cs ++ [c]) k
def bytesN (t : ByteArray) : List Nat := (B t).map (·.toNat)
theorem bytesN_len (t : ByteArray) : (bytesN t).length = t.size := by simp [bytesN]
end Go.Proofs.Ytipnhpfpppblhaa

/- Several parts in one: Matchers: what lies in memory; match.Fine, Value, is, not: contracts. slices.IndexFunc and ContainsFunc at matchers and at fields, whatever the closure: contracts; match.Value. -/
namespace Go.Proofs.Ytipnhpfpppblhaa
open Go.RowKit
structure Mt where
  nm : ByteArray
  op : Int
  val : ByteArray
instance : Inhabited Mt := ⟨⟨⟨#[]⟩, 0, ⟨#[]⟩⟩⟩
def mtC (m : Mt) : List Value := [.string m.nm, .int .i64 m.op, .string m.val]
def mtCells : List Mt → List Value
  | [] => []
  | m :: l => .string m.nm :: .int .i64 m.op :: .string m.val :: mtCells l
theorem mtCells_at (l : List Mt) (i : Nat) (h : i < l.length) : (mtCells l)[i * 3]? = some (.string l[i].nm) ∧ (mtCells l)[i * 3 + 1]? = some (.int .i64 l[i].op) ∧ (mtCells l)[i * 3 + 2]? = some (.string l[i].val) := by
  induction l generalizing i with
  | nil => cases h
  | cons s l ih =>
    cases i with
    | zero => simp [mtCells]
    | succ i =>
      obtain ⟨h1, h2, h3⟩ := ih i (by simpa using h)
      have e : (i + 1) * 3 = i * 3 + 3 := by omega
      rw [e]
      simp only [mtCells, List.getElem_cons_succ]
      refine ⟨?_, ?_, ?_⟩
      · rw [show i * 3 + 3 = i * 3 + 1 + 1 + 1 by omega]; simpa using h1
      · rw [show i * 3 + 3 + 1 = i * 3 + 1 + 1 + 1 + 1 by omega]; simpa using h2
      · rw [show i * 3 + 3 + 2 = i * 3 + 2 + 1 + 1 + 1 by omega]; simpa using h3
def MtsAt (w : World) (v : Value) (l : List Mt) : Prop := RdAt w v l.length 3 (mtCells l)
theorem MtsAt.later {w w' : World} {v : Value} {l : List Mt} (h : MtsAt w v l) (hb : Below w.heap.size w w') : MtsAt w' v l := RdAt.later h hb
def MtFit (m : Mt) : Prop := m.nm.size ≤ maxLen ∧ m.val.size ≤ maxLen
def MtsFit (l : List Mt) : Prop := ∀ m ∈ l, MtFit m
def fineM (m : Mt) : Bool := nameL (B m.nm) && decide (0 ≤ m.op) && decide (m.op ≤ 3) && decide (m.val.size ≤ 200) && (decide (m.op < 2) || decide (errM m.val = 0))
theorem box3m {w W : World} {a b c : Value} {t : TypeId} (hb : Below (w.alloc (.cells #[a, b, c] t)).heap.size (w.alloc (.cells #[a, b, c] t)) W) :
    (W.cell? ⟨w.heap.size, 0, none⟩ = some a ∧ W.cell? ⟨w.heap.size, 1, none⟩ = some b ∧ W.cell? ⟨w.heap.size, 2, none⟩ = some c) ∧ w.heap.size < W.heap.size ∧ Below w.heap.size w W := by
  obtain ⟨h, h2, h3⟩ := box_cells hb
  exact ⟨⟨h 0 _ rfl, h 1 _ rfl, h 2 _ rfl⟩, h2, h3⟩
end Go.Proofs.Ytipnhpfpppblhaa
namespace Go.Proofs.Ytipnhpfpppblhaa
open Go.RowKit
abbrev MtF := { m : Mt // MtFit m }
instance : Inhabited MtF := ⟨⟨⟨⟨#[]⟩, 0, ⟨#[]⟩⟩, by unfold MtFit maxLen; decide⟩⟩
/-! fields -/
end Go.Proofs.Ytipnhpfpppblhaa

/- Slices of strings that are read: what lies in memory, said plainly. -/
namespace Go.Proofs.Ytipnhpfpppblhaa
open Go.RowKit
def StrsAt (w : World) (v : Value) (ws : List ByteArray) : Prop := RdAt w v ws.length 1 (ws.map Value.string) ∧ ws.length ≤ 1073741824
theorem StrsAt.nil (w : World) : StrsAt w (.slice none 0 0) [] := ⟨RdAt.nil w 1, Nat.zero_le _⟩
theorem StrsAt.later {w w' : World} {v : Value} {ws : List ByteArray} (h : StrsAt w v ws) (hb : Below w.heap.size w w') : StrsAt w' v ws := ⟨h.1.later hb, h.2⟩
theorem StrsAt.own {w : World} {base : Nat} {e : TypeId} {v : Value} {ws : List ByteArray} (h : w.ownsRow base e 1 v ws.length (ws.map Value.string)) (hm : ws.length ≤ 1073741824) : StrsAt w v ws := ⟨RdAt.own h, hm⟩
theorem StrsAt.shape {w : World} {v : Value} {ws : List ByteArray} (h : StrsAt w v ws) : ∃ a c, v = .slice a ws.length c ∧ ws.length ≤ c ∧
    (ws ≠ [] → ∃ b o, a = some ⟨b, o, none⟩ ∧ b < w.heap.size ∧ ∀ (j : Nat) x, ws[j]? = some x → w.cell? ⟨b, o + j, none⟩ = some (.string x)) := by
  obtain ⟨a, c, hv, hc, hr⟩ := h.1.shape
  refine ⟨a, c, hv, hc, fun hne => ?_⟩
  obtain ⟨b, o, ha, hlt, hcell⟩ := hr (List.length_pos_iff.2 hne)
  exact ⟨b, o, ha, hlt, fun j x hx => hcell j _ (by rw [List.getElem?_map, hx]; rfl)⟩
end Go.Proofs.Ytipnhpfpppblhaa

/- Policies: their data, in memory and said plainly. -/
namespace Go.Proofs.Ytipnhpfpppblhaa
open Go.RowKit
/-! ### rows of elements of k cells -/
def cellsG {α : Type} (f : α → List Value) : List α → List Value
  | [] => []
  | x :: l => f x ++ cellsG f l
section
variable {α : Type} {f : α → List Value} {k : Nat}
theorem cellsG_len (hk : ∀ x, (f x).length = k) (l : List α) : (cellsG f l).length = l.length * k := by
  induction l with
  | nil => simp [cellsG]
  | cons x l ih => simp only [cellsG, List.length_append, hk, ih, List.length_cons]; rw [Nat.succ_mul]; omega
theorem cellsG_at (hk : ∀ x, (f x).length = k) : ∀ (l : List α) (j : Nat) (h : j < l.length) (i : Nat) (v : Value), (f l[j])[i]? = some v → (cellsG f l)[j * k + i]? = some v
  | x :: l, 0, _, i, v, hi => by
    have hlt := (List.getElem?_eq_some_iff.1 hi).1
    simp only [cellsG, Nat.zero_mul, Nat.zero_add]
    rw [List.getElem?_append_left (by simpa using hlt)]
    simpa using hi
  | x :: l, j + 1, h, i, v, hi => by
    simp only [cellsG]
    rw [List.getElem?_append_right (by rw [hk, Nat.succ_mul]; omega), hk]
    rw [show (j + 1) * k + i - k = j * k + i by rw [Nat.succ_mul]; omega]
    exact cellsG_at hk l j (by simpa using h) i v (by simpa using hi)
end
/-! ### routes, inhibits, policies: with the values of the slices that lie in them -/
structure PRt where
  rcv : ByteArray
  bys : List ByteArray
  wait : Int
  every : Int
  again : Int
  whn : List Mt
  bv : Value
  wv : Value
structure PIh where
  bys : List ByteArray
  lv : Int
  c : Nat
  frm : List Mt
  whn : List Mt
  bv : Value
  fv : Value
  wv : Value
def rtC (r : PRt) : List Value := [.string r.rcv, r.bv, .int .i64 r.wait, .int .i64 r.every, .int .i64 r.again, r.wv]
def ihC (x : PIh) : List Value := [x.bv, .int .i64 x.lv, .int .u32 x.c, x.fv, x.wv]
theorem rtC_len (r : PRt) : (rtC r).length = 6 := rfl
theorem ihC_len (x : PIh) : (ihC x).length = 5 := rfl
def StrsG (w : World) (v : Value) (ws : List ByteArray) : Prop := RdAt w v ws.length 1 (ws.map Value.string)
def StrsFit (ws : List ByteArray) : Prop := ws.length ≤ maxLen ∧ ∀ x ∈ ws, x.size ≤ maxLen
structure RtIn (w : World) (r : PRt) : Prop where
  b : StrsG w r.bv r.bys
  m : MtsAt w r.wv r.whn
structure IhIn (w : World) (x : PIh) : Prop where
  b : StrsG w x.bv x.bys
  f : MtsAt w x.fv x.frm
  m : MtsAt w x.wv x.whn
structure RtFit (r : PRt) : Prop where
  rcv : r.rcv.size ≤ maxLen
  bys : StrsFit r.bys
  whn : MtsFit r.whn
  len : r.whn.length ≤ maxLen
structure IhFit (x : PIh) : Prop where
  bys : StrsFit x.bys
  c : x.c < 4294967296
  frm : MtsFit x.frm
  whn : MtsFit x.whn
  lf : x.frm.length ≤ maxLen
  lw : x.whn.length ≤ maxLen
def RtsAt (w : World) (v : Value) (l : List PRt) : Prop := RdAt w v l.length 6 (cellsG rtC l) ∧ ∀ r ∈ l, RtIn w r
def IhsAt (w : World) (v : Value) (l : List PIh) : Prop := RdAt w v l.length 5 (cellsG ihC l) ∧ ∀ x ∈ l, IhIn w x
theorem RtIn.later {w w' : World} {r : PRt} (h : RtIn w r) (hb : Below w.heap.size w w') : RtIn w' r := ⟨RdAt.later h.b hb, h.m.later hb⟩
theorem IhIn.later {w w' : World} {x : PIh} (h : IhIn w x) (hb : Below w.heap.size w w') : IhIn w' x := ⟨RdAt.later h.b hb, h.f.later hb, h.m.later hb⟩
theorem RtsAt.later {w w' : World} {v : Value} {l : List PRt} (h : RtsAt w v l) (hb : Below w.heap.size w w') : RtsAt w' v l := ⟨h.1.later hb, fun r hr => (h.2 r hr).later hb⟩
theorem IhsAt.later {w w' : World} {v : Value} {l : List PIh} (h : IhsAt w v l) (hb : Below w.heap.size w w') : IhsAt w' v l := ⟨h.1.later hb, fun r hr => (h.2 r hr).later hb⟩
def NmdWide (l : List Nmd) : Prop := l.length ≤ maxLen ∧ NmdFit l ∧ ∀ x ∈ l, x.1.size ≤ maxLen
structure PD where
  so : List Nmd
  re : List Nmd
  pe : List Nmd
  ra : List Nmd
  ro : List PRt
  ih : List PIh
structure PV where
  v0 : Value
  v1 : Value
  v2 : Value
  v3 : Value
  v4 : Value
  v5 : Value
abbrev PV.v (x : PV) : Value := .agg #[x.v0, x.v1, x.v2, x.v3, x.v4, x.v5]
structure PolAt (w : World) (v : PV) (p : PD) : Prop where
  h0 : NmdsAt w v.v0 p.so
  h1 : NmdsAt w v.v1 p.re
  h2 : NmdsAt w v.v2 p.pe
  h3 : NmdsAt w v.v3 p.ra
  h4 : RtsAt w v.v4 p.ro
  h5 : IhsAt w v.v5 p.ih
structure PolFitD (p : PD) : Prop where
  h0 : NmdWide p.so
  h1 : NmdWide p.re
  h2 : NmdWide p.pe
  h3 : NmdWide p.ra
  l4 : p.ro.length ≤ maxLen
  h4 : ∀ r ∈ p.ro, RtFit r
  l5 : p.ih.length ≤ maxLen
  h5 : ∀ x ∈ p.ih, IhFit x
theorem PolAt.later {w w' : World} {v : PV} {p : PD} (h : PolAt w v p) (hb : Below w.heap.size w w') : PolAt w' v p :=
  ⟨h.h0.later hb, h.h1.later hb, h.h2.later hb, h.h3.later hb, h.h4.later hb, h.h5.later hb⟩
/-! ### which policies may be -/
def namedP (l : List Nmd) : Bool := decide ((l.map (·.1)).Nodup) && l.all (fun x => nameL (B x.1) && rightL x.2.1)
def byP (l : List ByteArray) : Bool := decide l.Nodup && l.all (fun x => nameL (B x)) && decide (l.length ≤ 8)
def plainT (s : ByteArray) : Bool := (B s).all fun c => decide (32 ≤ c.toNat)
def whenP (l : List Mt) : Bool := l.all (fun m => plainT m.val && fineM m) && decide (l.length ≤ 12)
def timesP (r : PRt) : Bool := decide (0 ≤ r.wait) && decide (r.wait ≤ 1000) && decide (1 ≤ r.every) && decide (r.every ≤ 1000) && decide (r.every ≤ r.again) && decide (r.again ≤ 100000)
def badRt (re : List Nmd) (r : PRt) : Bool := !(findL re r.rcv).isSome || !byP r.bys || !timesP r || !whenP r.whn
def badIh (x : PIh) : Bool := !byP x.bys || !rightL x.lv || !whenP x.frm || !whenP x.whn
def longP (p : PD) : Bool := decide (12 < p.so.length) || decide (12 < p.re.length) || decide (12 < p.pe.length) || decide (12 < p.ra.length) || decide (12 < p.ro.length) || decide (12 < p.ih.length)
def namesP (p : PD) : Bool := namedP p.so && namedP p.re && namedP p.pe && namedP p.ra
def checkP (p : PD) : Int := if longP p then 4 else if !namesP p then 1 else if p.ro.any (badRt p.re) then 1 else if p.ih.any badIh then 1 else 0
end Go.Proofs.Ytipnhpfpppblhaa

/- Several parts in one: lychgateref06.Name: a contract, the same as match.Name's. lychgateref06.Ahead, Right: contracts, the same as match's. lychgateref06.Right: a contract, the same as match.Right's. -/
namespace Go.Proofs.Ytipnhpfpppblhaa.refName
open Go.RowKit
def clB (l : List UInt8) : Bool := !(l.head?.any fun c => digN c.toNat) && !(l.any fun c => oddN c.toNat)
theorem nameL_clB (l : List UInt8) : nameL l = (decide (1 ≤ l.length) && decide (l.length ≤ 12) && clB l) := by
  cases l with
  | nil => rfl
  | cons c l => simp [nameL, clB, Bool.and_assoc]
theorem clB_one (c : UInt8) : clB [c] = (!digN c.toNat && !oddN c.toNat) := by simp [clB]
theorem clB_snoc {l : List UInt8} (h : l ≠ []) (c : UInt8) : clB (l ++ [c]) = (clB l && !oddN c.toNat) := by
  obtain ⟨d, r, rfl⟩ := List.exists_cons_of_ne_nil h
  simp [clB, Bool.and_assoc]
theorem clB_bad {l : List UInt8} (k : Nat) (h : clB (l.take k) = false) : clB l = false := by
  cases l with
  | nil => simpa using h
  | cons c l =>
    cases k with
    | zero => cases h
    | succ k =>
      rw [List.take_succ_cons] at h
      simp only [clB, List.head?_cons, Bool.and_eq_false_iff, Bool.not_eq_false'] at *
      rcases h with h | h
      · exact .inl h
      · right
        rw [List.any_eq_true] at *
        obtain ⟨x, hx, hp⟩ := h
        refine ⟨x, ?_, hp⟩
        rcases List.mem_cons.1 hx with rfl | hx
        · exact List.mem_cons_self ..
        · exact List.mem_cons_of_mem _ (List.mem_of_mem_take hx)
set_option maxHeartbeats 1600000 in
theorem name_any (s : ByteArray) (w : World) (hs : s.size ≤ maxLen) :
    Calls Try.prog 35 #[.string s] w fun e w' => e = .returned (.bool (nameL (B s))) ∧ w = w' := by
  unfold maxLen at hs
  have HNL : Hid (nameL (B s) = (decide (1 ≤ s.size) && decide (s.size ≤ 12) && clB (B s))) := by show _ = _; rw [nameL_clB, len_B]
  go_enter Try.func35, Try.ntmps35
  go_wp2
  go_loop [3] (fun x => ∃ k : Nat, k ≤ s.size ∧ x = .int .i64 k ∧ Hid (clB ((B s).take k) = true)) (fun x => s.size - (intOf x).toNat)
  case atStart => exact ⟨0, Nat.zero_le _, rfl, rfl⟩
  case round =>
    obtain ⟨k, hk, rfl, HC⟩ := hrel
    by_cases hlt : k < s.size
    · have HT1 : Hid ((B s).take (k + 1) = (B s).take k ++ [s[k]]) := take_succ_B s k hlt
      have hstep : clB ((B s).take (k + 1)) = (!(oddN s[k].toNat) && !(decide (k = 0) && digN s[k].toNat)) := by
        rw [HT1.out]
        by_cases h0 : k = 0
        · subst h0
          rw [List.take_zero, List.nil_append, clB_one]
          simp [Bool.and_comm]
        · rw [clB_snoc (by
            intro e
            have := congrArg List.length e
            rw [List.length_take, len_B, List.length_nil] at this
            omega), HC.out]
          simp [h0]
      have HST := Lib.hid hstep
      clear hstep
      rcases (show (s[k].toNat : Int) < 48 ∨ ((48 : Int) ≤ (s[k].toNat : Int) ∧ (s[k].toNat : Int) ≤ 57) ∨ (57 < (s[k].toNat : Int) ∧ (s[k].toNat : Int) < 95) ∨ (s[k].toNat : Int) = 95 ∨ (s[k].toNat : Int) = 96 ∨ ((97 : Int) ≤ (s[k].toNat : Int) ∧ (s[k].toNat : Int) ≤ 122) ∨ 122 < (s[k].toNat : Int) by omega) with h | ⟨h, h'⟩ | ⟨h, h'⟩ | h | h | ⟨h, h'⟩ | h
      · have ho : oddN s[k].toNat = true := by simp [oddN]; omega
        have hd : digN s[k].toNat = false := by simp [digN]; omega
        have HO := Lib.hid ho
        have HD := Lib.hid hd
        clear ho hd
        have HR : Hid (nameL (B s) = false) := by
          show _ = _
          rw [HNL.out, clB_bad (k + 1) (by rw [HST.out, HO.out]; simp), Bool.and_false]
        clear HNL
        have e1 : ((s[k].toNat : Int) != 95) = true := by rw [bne_iff_ne]; omega
        go_wp2
        go_ret
        exact ⟨by rw [HR.out]; rfl, rfl⟩
      · have ho : oddN s[k].toNat = false := by simp [oddN]; omega
        have hd : digN s[k].toNat = true := by simp [digN]; omega
        have HO := Lib.hid ho
        have HD := Lib.hid hd
        clear ho hd
        by_cases h0 : k = 0
        · subst h0
          have HR : Hid (nameL (B s) = false) := by
            show _ = _
            rw [HNL.out, clB_bad (0 + 1) (by rw [HST.out, HO.out, HD.out]; simp), Bool.and_false]
          clear HNL
          have e1 : ((s[0].toNat : Int) != 95) = true := by rw [bne_iff_ne]; omega
          go_wp2
          go_ret
          exact ⟨by rw [HR.out]; rfl, rfl⟩
        · have hk0 : 0 < k := by omega
          have HN : Hid (clB ((B s).take (k + 1)) = true) := by show _ = _; rw [HST.out, HO.out]; simp [h0]
          have e1 : ((s[k].toNat : Int) != 95) = true := by rw [bne_iff_ne]; omega
          clear h0
          go_wp2
          go_round
          case rel => exact ⟨k + 1, by omega, by go_num, HN⟩
          case measure => simp [intOf]; omega
      · have ho : oddN s[k].toNat = true := by simp [oddN]; omega
        have hd : digN s[k].toNat = false := by simp [digN]; omega
        have HO := Lib.hid ho
        have HD := Lib.hid hd
        clear ho hd
        have HR : Hid (nameL (B s) = false) := by
          show _ = _
          rw [HNL.out, clB_bad (k + 1) (by rw [HST.out, HO.out]; simp), Bool.and_false]
        clear HNL
        have e1 : ((s[k].toNat : Int) != 95) = true := by rw [bne_iff_ne]; omega
        go_wp2
        go_ret
        exact ⟨by rw [HR.out]; rfl, rfl⟩
      · have ho : oddN s[k].toNat = false := by simp [oddN]; omega
        have hd : digN s[k].toNat = false := by simp [digN]; omega
        have HO := Lib.hid ho
        have HD := Lib.hid hd
        clear ho hd
        have HN : Hid (clB ((B s).take (k + 1)) = true) := by show _ = _; rw [HST.out, HO.out, HD.out]; simp
        have e1 : ((s[k].toNat : Int) != 95) = false := by rw [bne_eq_false_iff_eq]; omega
        have e2 : (s[k].toNat : Int) < 97 := by omega
        clear h
        go_wp2
        go_round
        case rel => exact ⟨k + 1, by omega, by go_num, HN⟩
        case measure => simp [intOf]; omega
      · have ho : oddN s[k].toNat = true := by simp [oddN]; omega
        have hd : digN s[k].toNat = false := by simp [digN]; omega
        have HO := Lib.hid ho
        have HD := Lib.hid hd
        clear ho hd
        have HR : Hid (nameL (B s) = false) := by
          show _ = _
          rw [HNL.out, clB_bad (k + 1) (by rw [HST.out, HO.out]; simp), Bool.and_false]
        clear HNL
        have e1 : ((s[k].toNat : Int) != 95) = true := by rw [bne_iff_ne]; omega
        have e2 : (s[k].toNat : Int) < 97 := by omega
        have e3 : 57 < (s[k].toNat : Int) := by omega
        clear h
        go_wp2
        go_ret
        exact ⟨by rw [HR.out]; rfl, rfl⟩
      · have ho : oddN s[k].toNat = false := by simp [oddN]; omega
        have hd : digN s[k].toNat = false := by simp [digN]; omega
        have HO := Lib.hid ho
        have HD := Lib.hid hd
        clear ho hd
        have HN : Hid (clB ((B s).take (k + 1)) = true) := by show _ = _; rw [HST.out, HO.out, HD.out]; simp
        go_wp2
        go_round
        case rel => exact ⟨k + 1, by omega, by go_num, HN⟩
        case measure => simp [intOf]; omega
      · have ho : oddN s[k].toNat = true := by simp [oddN]; omega
        have hd : digN s[k].toNat = false := by simp [digN]; omega
        have HO := Lib.hid ho
        have HD := Lib.hid hd
        clear ho hd
        have HR : Hid (nameL (B s) = false) := by
          show _ = _
          rw [HNL.out, clB_bad (k + 1) (by rw [HST.out, HO.out]; simp), Bool.and_false]
        clear HNL
        have e1 : ((s[k].toNat : Int) != 95) = true := by rw [bne_iff_ne]; omega
        have e4 : decide ((s[k].toNat : Int) ≤ 122) = false := by rw [decide_eq_false_iff_not]; omega
        go_wp2
        go_ret
        exact ⟨by rw [HR.out]; rfl, rfl⟩
    · obtain rfl : k = s.size := by omega
      have HC' : Hid (clB (B s) = true) := by
        have := HC.out
        rw [take_all_B] at this
        exact this
      clear HC
      by_cases h1 : 1 ≤ (s.size : Int)
      · by_cases h2 : (s.size : Int) ≤ 12
        · have HR : Hid (nameL (B s) = true) := by
            show _ = _
            rw [HNL.out, HC'.out, decide_eq_true (by omega), decide_eq_true (by omega)]; rfl
          clear HNL
          go_wp2
          go_ret
          exact ⟨by rw [HR.out]; rfl, rfl⟩
        · have HR : Hid (nameL (B s) = false) := by
            show _ = _
            rw [HNL.out, decide_eq_false (p := s.size ≤ 12) (by omega)]; simp
          clear HNL
          go_wp2
          go_ret
          exact ⟨by rw [HR.out]; rfl, rfl⟩
      · have HR : Hid (nameL (B s) = false) := by
          show _ = _
          rw [HNL.out, decide_eq_false (p := 1 ≤ s.size) (by omega)]; simp
        clear HNL
        go_wp2
        go_ret
        exact ⟨by rw [HR.out]; rfl, rfl⟩
end Go.Proofs.Ytipnhpfpppblhaa.refName
namespace Go.Proofs.Ytipnhpfpppblhaa
open Go.RowKit
theorem less_at {a b : List UInt8} : ∀ (k : Nat) (ha : k < a.length) (hb : k < b.length), a.take k = b.take k → a[k] ≠ b[k] → Op.bytesLess a b = decide (a[k] < b[k]) := by
  intro k
  induction k generalizing a b with
  | zero =>
    intro ha hb _ hne
    obtain ⟨x, a, rfl⟩ := List.exists_cons_of_length_pos ha
    obtain ⟨y, b, rfl⟩ := List.exists_cons_of_length_pos hb
    simp only [List.getElem_cons_zero] at hne ⊢
    have h1 : (x == y) = false := by rw [beq_eq_false_iff_ne]; exact hne
    simp [Op.bytesLess, h1]
  | succ k ih =>
    intro ha hb ht hne
    obtain ⟨x, a, rfl⟩ := List.exists_cons_of_length_pos (Nat.lt_of_le_of_lt (Nat.zero_le _) ha)
    obtain ⟨y, b, rfl⟩ := List.exists_cons_of_length_pos (Nat.lt_of_le_of_lt (Nat.zero_le _) hb)
    simp only [List.take_succ_cons, List.cons.injEq] at ht
    obtain ⟨rfl, ht⟩ := ht
    simp only [List.getElem_cons_succ] at hne ⊢
    have := ih (by simpa using ha) (by simpa using hb) ht hne
    simp [Op.bytesLess, this]
theorem less_end {a b : List UInt8} : ∀ (k : Nat), a.take k = b.take k → (k = a.length ∧ k ≤ b.length ∨ k = b.length ∧ k ≤ a.length) → Op.bytesLess a b = decide (a.length < b.length) := by
  intro k
  induction k generalizing a b with
  | zero =>
    intro _ h
    rcases h with ⟨h, _⟩ | ⟨h, _⟩
    · have : a = [] := List.length_eq_zero_iff.1 h.symm
      subst this
      cases b <;> simp [Op.bytesLess]
    · have : b = [] := List.length_eq_zero_iff.1 h.symm
      subst this
      cases a <;> simp [Op.bytesLess]
  | succ k ih =>
    intro ht h
    have ha : 0 < a.length := by omega
    have hb : 0 < b.length := by omega
    obtain ⟨x, a, rfl⟩ := List.exists_cons_of_length_pos ha
    obtain ⟨y, b, rfl⟩ := List.exists_cons_of_length_pos hb
    simp only [List.take_succ_cons, List.cons.injEq] at ht
    obtain ⟨rfl, ht⟩ := ht
    simp only [List.length_cons] at h ⊢
    have := ih ht (by omega)
    simp [Op.bytesLess, this]
theorem B_at (s : ByteArray) (k : Nat) (h : k < s.size) (h' : k < (B s).length) : (B s)[k] = s[k] := by
  have h1 := take_succ_B s k h
  rw [List.take_succ_eq_append_getElem h'] at h1
  have := List.append_cancel_left h1
  simpa using this
set_option maxHeartbeats 1600000 in
set_option maxRecDepth 100000 in
theorem rahead_any (a b : ByteArray) (w : World) (ha : a.size ≤ maxLen) :
    Calls Try.prog 62 #[.string a, .string b] w fun e w' => e = .returned (.bool (ltS a b)) ∧ Below w.heap.size w w' := by
  unfold maxLen at ha
  have HL : Hid (ltS a b = Op.bytesLess (B a) (B b)) := by show _ = _; unfold ltS; rw [toList_B, toList_B]
  go_enter Try.func62, Try.ntmps62
  go_wp2
  go_loopw [5] (fun i wr => ∃ k : Nat, k ≤ a.size ∧ k ≤ b.size ∧ i = .int .i64 k ∧ Hid ((B a).take k = (B b).take k) ∧ Below w.heap.size w wr) (fun i _ => a.size - (intOf i).toNat)
  case atStart => exact ⟨0, Nat.zero_le _, Nat.zero_le _, rfl, Lib.hid rfl, Below.refl _ _⟩
  case round =>
    obtain ⟨k, hk1, hk2, rfl, HT, hbr⟩ := hrel
    by_cases h1 : k < a.size
    · by_cases h2 : k < b.size
      · obtain ⟨x, hx⟩ : ∃ x, a[k] = x := ⟨_, rfl⟩
        obtain ⟨y, hy⟩ : ∃ y, b[k] = y := ⟨_, rfl⟩
        have l1 : k < (B a).length := by rw [len_B]; exact h1
        have l2 : k < (B b).length := by rw [len_B]; exact h2
        by_cases hxy : x = y
        · have HN : Hid ((B a).take (k + 1) = (B b).take (k + 1)) := take_step HT.out l1 l2 (by rw [B_at a k h1 l1, B_at b k h2 l2, hx, hy, hxy])
          have hne : ((x.toNat : Int) != (y.toNat : Int)) = false := by rw [hxy]; simp
          clear l1 l2 hxy
          go_wp2
          go_quiet (fail)
          have hb2 : Below w.heap.size w (wr.drewN nq) := bl_drewN hbr nq
          generalize wr.drewN nq = wq at *
          go_wp2
          go_roundw
          case rel => exact ⟨k + 1, by omega, by omega, by go_num, HN, hb2⟩
          case measure => simp [intOf]; omega
        · have hr : ltS a b = decide (x < y) := by
            rw [HL.out, less_at k l1 l2 HT.out (by rw [B_at a k h1 l1, B_at b k h2 l2, hx, hy]; exact hxy), B_at a k h1 l1, B_at b k h2 l2, hx, hy]
          have HR := Lib.hid hr
          have hne : ((x.toNat : Int) != (y.toNat : Int)) = true := by
            rw [bne_iff_ne]; intro h; exact hxy (UInt8.toNat_inj.1 (by omega))
          clear l1 l2 hxy hr
          go_wp2
          go_quiet (fail)
          have hb2 : Below w.heap.size w (wr.drewN nq) := bl_drewN hbr nq
          generalize wr.drewN nq = wq at *
          clear nq
          go_wp2
          go_quiet (fail)
          have hb3 : Below w.heap.size w (wq.drewN nq) := bl_drewN hb2 nq
          generalize wq.drewN nq = wz at *
          go_wp2
          go_ret
          exact ⟨by rw [HR.out]; simp [UInt8.lt_iff_toNat_lt], hb3⟩
      · obtain rfl : k = b.size := by omega
        have hr : ltS a b = decide ((B a).length < (B b).length) := by rw [HL.out]; exact less_end b.size HT.out (.inr ⟨(len_B b).symm, by rw [len_B]; exact hk1⟩)
        rw [len_B, len_B] at hr
        have HR := Lib.hid hr
        clear hr
        go_wp2
        go_ret
        exact ⟨by rw [HR.out]; simp, hbr⟩
    · obtain rfl : k = a.size := by omega
      have hr : ltS a b = decide ((B a).length < (B b).length) := by rw [HL.out]; exact less_end a.size HT.out (.inl ⟨(len_B a).symm, by rw [len_B]; exact hk2⟩)
      rw [len_B, len_B] at hr
      have HR := Lib.hid hr
      clear hr
      go_wp2
      go_ret
      exact ⟨by rw [HR.out]; simp, hbr⟩
end Go.Proofs.Ytipnhpfpppblhaa
namespace Go.Proofs.Ytipnhpfpppblhaa
open Go.RowKit
set_option maxHeartbeats 3200000 in
set_option maxRecDepth 100000 in
theorem rright6_any (l : List Fld) (w : World) (v : Value) (hv : FldsAt w v l) (hf : FldsFit l) (hl : l.length ≤ maxLen) :
    Calls Try.prog 36 #[v] w fun e w' => e = .returned (.bool (rightF l)) ∧ Below w.heap.size w w' := by
  unfold maxLen at hl
  obtain ⟨a, c, rfl, hc, hr⟩ := RdAt.shape hv
  have HR := Lib.hid hr
  have HF := Lib.hid hf
  clear hr hv hf
  go_enter Try.func36, Try.ntmps36
  go_wp2
  go_loopw [3] (fun i wr => ∃ k : Nat, k ≤ l.length ∧ i = .int .i64 k ∧ Hid (∀ j, j < k → fldOk l j = true) ∧ Below w.heap.size w wr) (fun i _ => l.length - (intOf i).toNat)
  case atStart => exact ⟨0, Nat.zero_le _, rfl, Lib.hid (fun j hj => absurd hj (Nat.not_lt_zero j)), Below.refl _ _⟩
  case round =>
    obtain ⟨k, hk, rfl, HT, hbr⟩ := hrel
    by_cases hkl : k < l.length
    · obtain ⟨b, o, rfl, hb, hcell⟩ := HR.out (by omega)
      obtain ⟨x, hxe⟩ : ∃ x, l[k].1 = x := ⟨_, rfl⟩
      obtain ⟨y, hye⟩ : ∃ y, l[k].2 = y := ⟨_, rfl⟩
      have hfs := HF.out _ (List.getElem_mem hkl)
      rw [hxe, hye] at hfs
      obtain ⟨hx0, hy0⟩ := fldCells_at l k hkl
      rw [hxe] at hx0
      rw [hye] at hy0
      have a0 : wr.cell? ⟨b, o + k * 2, none⟩ = some (.string x) := keep_cell (hcell _ _ hx0) hbr hb
      have a1 : wr.cell? ⟨b, o + k * 2 + 1, none⟩ = some (.string y) := keep_cell (by have := hcell _ _ hy0; rwa [← Nat.add_assoc] at this) hbr hb
      have hwb : b < wr.heap.size := Nat.lt_of_lt_of_le hb hbr.size
      have hall : ∀ j v, (fldCells l)[j]? = some v → wr.cell? ⟨b, o + j, none⟩ = some v := fun j v hj => keep_cell (hcell _ _ hj) hbr hb
      have hn : ∀ W, Calls Try.prog 35 #[.string x] W fun e w' => e = .returned (.bool (nameL (B x))) ∧ w' = W := fun W => (refName.name_any x W hfs.1).mono (by rintro e w' ⟨h1, h2⟩; exact ⟨h1, h2.symm⟩)
      have hys : y.size ≤ 9223372036854775807 := by have := hfs.2; unfold maxLen at this; omega
      have hstep : fldOk l k = true → Hid (∀ j, j < k + 1 → fldOk l j = true) := fun h => Lib.hid (fun j hj => by
        rcases Nat.lt_or_ge j k with h' | h'
        · exact HT.out j h'
        · obtain rfl : j = k := by omega
          exact h)
      have hbad : fldOk l k = false → Hid (rightF l = false) := fun h => rightF_bad hkl h
      have hgx : l.getD k default = (x, y) := by rw [List.getD_eq_getElem?_getD, List.getElem?_eq_getElem hkl]; show l[k] = _; rw [← hxe, ← hye]
      unfold fldOk at hstep hbad
      rw [hgx] at hstep hbad
      clear hcell hx0 hy0 hxe hye hgx HT
      cases hnm : nameL (B x)
      · have HZ := hbad (by rw [hnm]; rfl)
        rw [hnm] at hn
        clear hstep hbad hall hnm hfs
        go_upto_region 4 with fail
        refine wp_region_held_drew (S := (fun W => W.cell? ⟨b, o + k * 2, none⟩ = some (.string x) ∧ W.cell? ⟨b, o + k * 2 + 1, none⟩ = some (.string y))) (by kernel_rfl) ⟨a0, a1⟩ (fun hHeld => ?_)
        refine held_take (i := 0) (v := ?_) rfl rfl (by kernel_rfl) (by kernel_rfl) (by kernel_rfl) (fun _ _ _ h => h) (by rfl) hHeld ?_ ?_
        rotate_left
        · rintro wh ⟨z0, z1⟩
          go_simp
          (try with_reducible rfl)
        simp only [Act.put, List.setIfInBounds_toArray, List.set_cons_zero, List.set_cons_succ]
        refine held_take (i := 1) (v := ?_) rfl rfl (by kernel_rfl) (by kernel_rfl) (by kernel_rfl) (fun _ _ _ h => h) (by rfl) hHeld ?_ ?_
        rotate_left
        · rintro wh ⟨z0, z1⟩
          go_simp
          (try with_reducible rfl)
        simp only [Act.put, List.setIfInBounds_toArray, List.set_cons_zero, List.set_cons_succ]
        refine held_take (i := 2) (v := ?_) rfl rfl (by kernel_rfl) (by kernel_rfl) (by kernel_rfl) (fun _ _ _ h => h) (by rfl) hHeld ?_ ?_
        rotate_left
        · rintro wh ⟨z0, z1⟩
          go_simp
          (try with_reducible rfl)
        simp only [Act.put, List.setIfInBounds_toArray, List.set_cons_zero, List.set_cons_succ]
        refine held_take (i := 3) (v := ?_) rfl rfl (by kernel_rfl) (by kernel_rfl) (by kernel_rfl) (fun _ _ _ h => h) (by rfl) hHeld ?_ ?_
        rotate_left
        · rintro wh ⟨z0, z1⟩
          go_simp
          (try with_reducible rfl)
        simp only [Act.put, List.setIfInBounds_toArray, List.set_cons_zero, List.set_cons_succ]
        refine held_take (i := 4) (v := ?_) rfl rfl (by kernel_rfl) (by kernel_rfl) (by kernel_rfl) (fun _ _ _ h => h) (by rfl) hHeld ?_ ?_
        rotate_left
        · rintro wh ⟨z0, z1⟩
          go_simp
          (try with_reducible rfl)
        simp only [Act.put, List.setIfInBounds_toArray, List.set_cons_zero, List.set_cons_succ]
        refine held_call (i := 5) rfl (by kernel_rfl) (by rfl) (fun K hK => ?_)
        (go_simp; go_at_call 35; refine (hn _).mono ?_; rintro e w1 ⟨rfl, rfl⟩; have hB1 : Below wr.heap.size wr wr.drew := (Below.refl _ _).drew)
        refine hK.out _ _ ⟨keep_cell a0 hB1 hwb, keep_cell a1 hB1 hwb⟩ (fun hHeld => ?_)
        clear hK K
        (try simp only [Act.put, List.setIfInBounds_toArray, List.set_cons_zero, List.set_cons_succ])
        refine held_take (i := 6) (v := ?_) rfl rfl (by kernel_rfl) (by kernel_rfl) (by kernel_rfl) (fun _ _ _ h => h) (by rfl) hHeld ?_ ?_
        rotate_left
        · rintro wh ⟨z0, z1⟩
          go_simp
          (try with_reducible rfl)
        simp only [Act.put, List.setIfInBounds_toArray, List.set_cons_zero, List.set_cons_succ]
        refine held_take (i := 7) (v := ?_) rfl rfl (by kernel_rfl) (by kernel_rfl) (by kernel_rfl) (fun _ _ _ h => h) (by rfl) hHeld ?_ ?_
        rotate_left
        · rintro wh ⟨z0, z1⟩
          go_simp
          (try with_reducible rfl)
        simp only [Act.put, List.setIfInBounds_toArray, List.set_cons_zero, List.set_cons_succ]
        refine held_skip (i := 8) rfl rfl (by kernel_rfl) (by kernel_rfl) (by kernel_rfl) (fun _ _ _ h => h) (by rfl) hHeld ?_
        simp only [Act.put, List.setIfInBounds_toArray, List.set_cons_zero, List.set_cons_succ]
        refine held_skip (i := 9) rfl rfl (by kernel_rfl) (by kernel_rfl) (by kernel_rfl) (fun _ _ _ h => h) (by rfl) hHeld ?_
        simp only [Act.put, List.setIfInBounds_toArray, List.set_cons_zero, List.set_cons_succ]
        refine held_skip (i := 10) rfl rfl (by kernel_rfl) (by kernel_rfl) (by kernel_rfl) (fun _ _ _ h => h) (by rfl) hHeld ?_
        simp only [Act.put, List.setIfInBounds_toArray, List.set_cons_zero, List.set_cons_succ]
        refine held_skip (i := 11) rfl rfl (by kernel_rfl) (by kernel_rfl) (by kernel_rfl) (fun _ _ _ h => h) (by rfl) hHeld ?_
        simp only [Act.put, List.setIfInBounds_toArray, List.set_cons_zero, List.set_cons_succ]
        refine held_skip (i := 12) rfl rfl (by kernel_rfl) (by kernel_rfl) (by kernel_rfl) (fun _ _ _ h => h) (by rfl) hHeld ?_
        simp only [Act.put, List.setIfInBounds_toArray, List.set_cons_zero, List.set_cons_succ]
        refine held_skip (i := 13) rfl rfl (by kernel_rfl) (by kernel_rfl) (by kernel_rfl) (fun _ _ _ h => h) (by rfl) hHeld ?_
        simp only [Act.put, List.setIfInBounds_toArray, List.set_cons_zero, List.set_cons_succ]
        refine held_skip (i := 14) rfl rfl (by kernel_rfl) (by kernel_rfl) (by kernel_rfl) (fun _ _ _ h => h) (by rfl) hHeld ?_
        simp only [Act.put, List.setIfInBounds_toArray, List.set_cons_zero, List.set_cons_succ]
        refine held_take (i := 15) (v := ?_) rfl rfl (by kernel_rfl) (by kernel_rfl) (by kernel_rfl) (fun _ _ _ h => h) (by rfl) hHeld ?_ ?_
        rotate_left
        · rintro wh ⟨z0, z1⟩
          go_simp
          (try with_reducible rfl)
        simp only [Act.put, List.setIfInBounds_toArray, List.set_cons_zero, List.set_cons_succ]
        refine held_take (i := 16) (v := ?_) rfl rfl (by kernel_rfl) (by kernel_rfl) (by kernel_rfl) (fun _ _ _ h => h) (by rfl) hHeld ?_ ?_
        rotate_left
        · rintro wh ⟨z0, z1⟩
          go_simp
          (try with_reducible rfl)
        simp only [Act.put, List.setIfInBounds_toArray, List.set_cons_zero, List.set_cons_succ]
        refine held_skip (i := 17) rfl rfl (by kernel_rfl) (by kernel_rfl) (by kernel_rfl) (fun _ _ _ h => h) (by rfl) hHeld ?_
        simp only [Act.put, List.setIfInBounds_toArray, List.set_cons_zero, List.set_cons_succ]
        refine held_skip (i := 18) rfl rfl (by kernel_rfl) (by kernel_rfl) (by kernel_rfl) (fun _ _ _ h => h) (by rfl) hHeld ?_
        simp only [Act.put, List.setIfInBounds_toArray, List.set_cons_zero, List.set_cons_succ]
        refine held_skip (i := 19) rfl rfl (by kernel_rfl) (by kernel_rfl) (by kernel_rfl) (fun _ _ _ h => h) (by rfl) hHeld ?_
        simp only [Act.put, List.setIfInBounds_toArray, List.set_cons_zero, List.set_cons_succ]
        refine held_skip (i := 20) rfl rfl (by kernel_rfl) (by kernel_rfl) (by kernel_rfl) (fun _ _ _ h => h) (by rfl) hHeld ?_
        simp only [Act.put, List.setIfInBounds_toArray, List.set_cons_zero, List.set_cons_succ]
        refine held_skip (i := 21) rfl rfl (by kernel_rfl) (by kernel_rfl) (by kernel_rfl) (fun _ _ _ h => h) (by rfl) hHeld ?_
        simp only [Act.put, List.setIfInBounds_toArray, List.set_cons_zero, List.set_cons_succ]
        refine held_skip (i := 22) rfl rfl (by kernel_rfl) (by kernel_rfl) (by kernel_rfl) (fun _ _ _ h => h) (by rfl) hHeld ?_
        simp only [Act.put, List.setIfInBounds_toArray, List.set_cons_zero, List.set_cons_succ]
        refine held_skip (i := 23) rfl rfl (by kernel_rfl) (by kernel_rfl) (by kernel_rfl) (fun _ _ _ h => h) (by rfl) hHeld ?_
        simp only [Act.put, List.setIfInBounds_toArray, List.set_cons_zero, List.set_cons_succ]
        refine held_skip (i := 24) rfl rfl (by kernel_rfl) (by kernel_rfl) (by kernel_rfl) (fun _ _ _ h => h) (by rfl) hHeld ?_
        simp only [Act.put, List.setIfInBounds_toArray, List.set_cons_zero, List.set_cons_succ]
        refine held_skip (i := 25) rfl rfl (by kernel_rfl) (by kernel_rfl) (by kernel_rfl) (fun _ _ _ h => h) (by rfl) hHeld ?_
        simp only [Act.put, List.setIfInBounds_toArray, List.set_cons_zero, List.set_cons_succ]
        refine held_skip (i := 26) rfl rfl (by kernel_rfl) (by kernel_rfl) (by kernel_rfl) (fun _ _ _ h => h) (by rfl) hHeld ?_
        simp only [Act.put, List.setIfInBounds_toArray, List.set_cons_zero, List.set_cons_succ]
        refine held_skip (i := 27) rfl rfl (by kernel_rfl) (by kernel_rfl) (by kernel_rfl) (fun _ _ _ h => h) (by rfl) hHeld ?_
        simp only [Act.put, List.setIfInBounds_toArray, List.set_cons_zero, List.set_cons_succ]
        refine held_skip (i := 28) rfl rfl (by kernel_rfl) (by kernel_rfl) (by kernel_rfl) (fun _ _ _ h => h) (by rfl) hHeld ?_
        simp only [Act.put, List.setIfInBounds_toArray, List.set_cons_zero, List.set_cons_succ]
        refine held_skip (i := 29) rfl rfl (by kernel_rfl) (by kernel_rfl) (by kernel_rfl) (fun _ _ _ h => h) (by rfl) hHeld ?_
        simp only [Act.put, List.setIfInBounds_toArray, List.set_cons_zero, List.set_cons_succ]
        refine held_skip (i := 30) rfl rfl (by kernel_rfl) (by kernel_rfl) (by kernel_rfl) (fun _ _ _ h => h) (by rfl) hHeld ?_
        simp only [Act.put, List.setIfInBounds_toArray, List.set_cons_zero, List.set_cons_succ]
        refine held_skip (i := 31) rfl rfl (by kernel_rfl) (by kernel_rfl) (by kernel_rfl) (fun _ _ _ h => h) (by rfl) hHeld ?_
        simp only [Act.put, List.setIfInBounds_toArray, List.set_cons_zero, List.set_cons_succ]
        refine held_skip (i := 32) rfl rfl (by kernel_rfl) (by kernel_rfl) (by kernel_rfl) (fun _ _ _ h => h) (by rfl) hHeld ?_
        simp only [Act.put, List.setIfInBounds_toArray, List.set_cons_zero, List.set_cons_succ]
        refine held_skip (i := 33) rfl rfl (by kernel_rfl) (by kernel_rfl) (by kernel_rfl) (fun _ _ _ h => h) (by rfl) hHeld ?_
        simp only [Act.put, List.setIfInBounds_toArray, List.set_cons_zero, List.set_cons_succ]
        refine held_take (i := 34) (v := ?_) rfl rfl (by kernel_rfl) (by kernel_rfl) (by kernel_rfl) (fun _ _ _ h => h) (by rfl) hHeld ?_ ?_
        rotate_left
        · rintro wh ⟨z0, z1⟩
          go_simp
          (try with_reducible rfl)
        simp only [Act.put, List.setIfInBounds_toArray, List.set_cons_zero, List.set_cons_succ]
        refine wpAnyH_done (by kernel_rfl) ?_ _
        have hbn : Below w.heap.size w wr.drew := hbr.trans (hB1.mono hbr.size)
        clear hB1 hn
        generalize wr.drew = wq at *
        go_wp2
        go_ret
        exact ⟨by rw [HZ.out]; rfl, hbn⟩
      · rw [hnm] at hn
        by_cases hy2 : y.size ≤ 200
        · have g1 : decide ((200 : Int) < (y.size : Int)) = false := decide_eq_false (by omega)
          rcases Nat.eq_zero_or_pos k with hk0 | hk0
          · have HN := hstep (by rw [hnm, decide_eq_true hy2, decide_eq_true hk0]; rfl)
            subst hk0
            rw [Nat.zero_mul, Nat.add_zero] at a0 a1
            clear hstep hbad hall hnm hy2 hfs
            go_upto_region 4 with fail
            refine wp_region_held_drew (S := (fun W => W.cell? ⟨b, o, none⟩ = some (.string x) ∧ W.cell? ⟨b, o + 1, none⟩ = some (.string y))) (by kernel_rfl) ⟨a0, a1⟩ (fun hHeld => ?_)
            refine held_take (i := 0) (v := ?_) rfl rfl (by kernel_rfl) (by kernel_rfl) (by kernel_rfl) (fun _ _ _ h => h) (by rfl) hHeld ?_ ?_
            rotate_left
            · rintro wh ⟨z0, z1⟩
              go_simp
              (try with_reducible rfl)
            simp only [Act.put, List.setIfInBounds_toArray, List.set_cons_zero, List.set_cons_succ]
            refine held_take (i := 1) (v := ?_) rfl rfl (by kernel_rfl) (by kernel_rfl) (by kernel_rfl) (fun _ _ _ h => h) (by rfl) hHeld ?_ ?_
            rotate_left
            · rintro wh ⟨z0, z1⟩
              go_simp
              (try with_reducible rfl)
            simp only [Act.put, List.setIfInBounds_toArray, List.set_cons_zero, List.set_cons_succ]
            refine held_take (i := 2) (v := ?_) rfl rfl (by kernel_rfl) (by kernel_rfl) (by kernel_rfl) (fun _ _ _ h => h) (by rfl) hHeld ?_ ?_
            rotate_left
            · rintro wh ⟨z0, z1⟩
              go_simp
              (try with_reducible rfl)
            simp only [Act.put, List.setIfInBounds_toArray, List.set_cons_zero, List.set_cons_succ]
            refine held_take (i := 3) (v := ?_) rfl rfl (by kernel_rfl) (by kernel_rfl) (by kernel_rfl) (fun _ _ _ h => h) (by rfl) hHeld ?_ ?_
            rotate_left
            · rintro wh ⟨z0, z1⟩
              go_simp
              (try with_reducible rfl)
            simp only [Act.put, List.setIfInBounds_toArray, List.set_cons_zero, List.set_cons_succ]
            refine held_take (i := 4) (v := ?_) rfl rfl (by kernel_rfl) (by kernel_rfl) (by kernel_rfl) (fun _ _ _ h => h) (by rfl) hHeld ?_ ?_
            rotate_left
            · rintro wh ⟨z0, z1⟩
              go_simp
              (try with_reducible rfl)
            simp only [Act.put, List.setIfInBounds_toArray, List.set_cons_zero, List.set_cons_succ]
            refine held_call (i := 5) rfl (by kernel_rfl) (by rfl) (fun K hK => ?_)
            (go_simp; go_at_call 35; refine (hn _).mono ?_; rintro e w1 ⟨rfl, rfl⟩; have hB1 : Below wr.heap.size wr wr.drew := (Below.refl _ _).drew)
            refine hK.out _ _ ⟨keep_cell a0 hB1 hwb, keep_cell a1 hB1 hwb⟩ (fun hHeld => ?_)
            clear hK K
            (try simp only [Act.put, List.setIfInBounds_toArray, List.set_cons_zero, List.set_cons_succ])
            refine held_take (i := 6) (v := ?_) rfl rfl (by kernel_rfl) (by kernel_rfl) (by kernel_rfl) (fun _ _ _ h => h) (by rfl) hHeld ?_ ?_
            rotate_left
            · rintro wh ⟨z0, z1⟩
              go_simp
              (try with_reducible rfl)
            simp only [Act.put, List.setIfInBounds_toArray, List.set_cons_zero, List.set_cons_succ]
            refine held_take (i := 7) (v := ?_) rfl rfl (by kernel_rfl) (by kernel_rfl) (by kernel_rfl) (fun _ _ _ h => h) (by rfl) hHeld ?_ ?_
            rotate_left
            · rintro wh ⟨z0, z1⟩
              go_simp
              (try with_reducible rfl)
            simp only [Act.put, List.setIfInBounds_toArray, List.set_cons_zero, List.set_cons_succ]
            refine held_take (i := 8) (v := ?_) rfl rfl (by kernel_rfl) (by kernel_rfl) (by kernel_rfl) (fun _ _ _ h => h) (by rfl) hHeld ?_ ?_
            rotate_left
            · rintro wh ⟨z0, z1⟩
              go_simp
              (try with_reducible rfl)
            simp only [Act.put, List.setIfInBounds_toArray, List.set_cons_zero, List.set_cons_succ]
            refine held_take (i := 9) (v := ?_) rfl rfl (by kernel_rfl) (by kernel_rfl) (by kernel_rfl) (fun _ _ _ h => h) (by rfl) hHeld ?_ ?_
            rotate_left
            · rintro wh ⟨z0, z1⟩
              go_simp
              (try with_reducible rfl)
            simp only [Act.put, List.setIfInBounds_toArray, List.set_cons_zero, List.set_cons_succ]
            refine held_take (i := 10) (v := ?_) rfl rfl (by kernel_rfl) (by kernel_rfl) (by kernel_rfl) (fun _ _ _ h => h) (by rfl) hHeld ?_ ?_
            rotate_left
            · rintro wh ⟨z0, z1⟩
              go_simp
              (try with_reducible rfl)
            simp only [Act.put, List.setIfInBounds_toArray, List.set_cons_zero, List.set_cons_succ]
            refine held_take (i := 11) (v := ?_) rfl rfl (by kernel_rfl) (by kernel_rfl) (by kernel_rfl) (fun _ _ _ h => h) (by rfl) hHeld ?_ ?_
            rotate_left
            · rintro wh ⟨z0, z1⟩
              go_simp
              (try with_reducible rfl)
            simp only [Act.put, List.setIfInBounds_toArray, List.set_cons_zero, List.set_cons_succ]
            refine held_take (i := 12) (v := ?_) rfl rfl (by kernel_rfl) (by kernel_rfl) (by kernel_rfl) (fun _ _ _ h => h) (by rfl) hHeld ?_ ?_
            rotate_left
            · rintro wh ⟨z0, z1⟩
              go_simp
              (try with_reducible rfl)
            simp only [Act.put, List.setIfInBounds_toArray, List.set_cons_zero, List.set_cons_succ]
            refine held_take (i := 13) (v := ?_) rfl rfl (by kernel_rfl) (by kernel_rfl) (by kernel_rfl) (fun _ _ _ h => h) (by rfl) hHeld ?_ ?_
            rotate_left
            · rintro wh ⟨z0, z1⟩
              go_simp
              (try with_reducible rfl)
            simp only [Act.put, List.setIfInBounds_toArray, List.set_cons_zero, List.set_cons_succ]
            refine held_take (i := 14) (v := ?_) rfl rfl (by kernel_rfl) (by kernel_rfl) (by kernel_rfl) (fun _ _ _ h => h) (by rfl) hHeld ?_ ?_
            rotate_left
            · rintro wh ⟨z0, z1⟩
              go_simp
              (try with_reducible rfl)
            simp only [Act.put, List.setIfInBounds_toArray, List.set_cons_zero, List.set_cons_succ]
            refine held_take (i := 15) (v := ?_) rfl rfl (by kernel_rfl) (by kernel_rfl) (by kernel_rfl) (fun _ _ _ h => h) (by rfl) hHeld ?_ ?_
            rotate_left
            · rintro wh ⟨z0, z1⟩
              go_simp
              (try with_reducible rfl)
            simp only [Act.put, List.setIfInBounds_toArray, List.set_cons_zero, List.set_cons_succ]
            refine held_take (i := 16) (v := ?_) rfl rfl (by kernel_rfl) (by kernel_rfl) (by kernel_rfl) (fun _ _ _ h => h) (by rfl) hHeld ?_ ?_
            rotate_left
            · rintro wh ⟨z0, z1⟩
              go_simp
              (try with_reducible rfl)
            simp only [Act.put, List.setIfInBounds_toArray, List.set_cons_zero, List.set_cons_succ]
            refine held_take (i := 17) (v := ?_) rfl rfl (by kernel_rfl) (by kernel_rfl) (by kernel_rfl) (fun _ _ _ h => h) (by rfl) hHeld ?_ ?_
            rotate_left
            · rintro wh ⟨z0, z1⟩
              go_simp
              (try with_reducible rfl)
            simp only [Act.put, List.setIfInBounds_toArray, List.set_cons_zero, List.set_cons_succ]
            refine held_take (i := 18) (v := ?_) rfl rfl (by kernel_rfl) (by kernel_rfl) (by kernel_rfl) (fun _ _ _ h => h) (by rfl) hHeld ?_ ?_
            rotate_left
            · rintro wh ⟨z0, z1⟩
              go_simp
              (try with_reducible rfl)
            simp only [Act.put, List.setIfInBounds_toArray, List.set_cons_zero, List.set_cons_succ]
            refine held_take (i := 19) (v := ?_) rfl rfl (by kernel_rfl) (by kernel_rfl) (by kernel_rfl) (fun _ _ _ h => h) (by rfl) hHeld ?_ ?_
            rotate_left
            · rintro wh ⟨z0, z1⟩
              go_simp
              (try with_reducible rfl)
            simp only [Act.put, List.setIfInBounds_toArray, List.set_cons_zero, List.set_cons_succ]
            refine held_skip (i := 20) rfl rfl (by kernel_rfl) (by kernel_rfl) (by kernel_rfl) (fun _ _ _ h => h) (by rfl) hHeld ?_
            simp only [Act.put, List.setIfInBounds_toArray, List.set_cons_zero, List.set_cons_succ]
            refine held_skip (i := 21) rfl rfl (by kernel_rfl) (by kernel_rfl) (by kernel_rfl) (fun _ _ _ h => h) (by rfl) hHeld ?_
            simp only [Act.put, List.setIfInBounds_toArray, List.set_cons_zero, List.set_cons_succ]
            refine held_skip (i := 22) rfl rfl (by kernel_rfl) (by kernel_rfl) (by kernel_rfl) (fun _ _ _ h => h) (by rfl) hHeld ?_
            simp only [Act.put, List.setIfInBounds_toArray, List.set_cons_zero, List.set_cons_succ]
            refine held_skip (i := 23) rfl rfl (by kernel_rfl) (by kernel_rfl) (by kernel_rfl) (fun _ _ _ h => h) (by rfl) hHeld ?_
            simp only [Act.put, List.setIfInBounds_toArray, List.set_cons_zero, List.set_cons_succ]
            refine held_skip (i := 24) rfl rfl (by kernel_rfl) (by kernel_rfl) (by kernel_rfl) (fun _ _ _ h => h) (by rfl) hHeld ?_
            simp only [Act.put, List.setIfInBounds_toArray, List.set_cons_zero, List.set_cons_succ]
            refine held_skip (i := 25) rfl rfl (by kernel_rfl) (by kernel_rfl) (by kernel_rfl) (fun _ _ _ h => h) (by rfl) hHeld ?_
            simp only [Act.put, List.setIfInBounds_toArray, List.set_cons_zero, List.set_cons_succ]
            refine held_skip (i := 26) rfl rfl (by kernel_rfl) (by kernel_rfl) (by kernel_rfl) (fun _ _ _ h => h) (by rfl) hHeld ?_
            simp only [Act.put, List.setIfInBounds_toArray, List.set_cons_zero, List.set_cons_succ]
            refine held_skip (i := 27) rfl rfl (by kernel_rfl) (by kernel_rfl) (by kernel_rfl) (fun _ _ _ h => h) (by rfl) hHeld ?_
            simp only [Act.put, List.setIfInBounds_toArray, List.set_cons_zero, List.set_cons_succ]
            refine held_skip (i := 28) rfl rfl (by kernel_rfl) (by kernel_rfl) (by kernel_rfl) (fun _ _ _ h => h) (by rfl) hHeld ?_
            simp only [Act.put, List.setIfInBounds_toArray, List.set_cons_zero, List.set_cons_succ]
            refine held_skip (i := 29) rfl rfl (by kernel_rfl) (by kernel_rfl) (by kernel_rfl) (fun _ _ _ h => h) (by rfl) hHeld ?_
            simp only [Act.put, List.setIfInBounds_toArray, List.set_cons_zero, List.set_cons_succ]
            refine held_skip (i := 30) rfl rfl (by kernel_rfl) (by kernel_rfl) (by kernel_rfl) (fun _ _ _ h => h) (by rfl) hHeld ?_
            simp only [Act.put, List.setIfInBounds_toArray, List.set_cons_zero, List.set_cons_succ]
            refine held_skip (i := 31) rfl rfl (by kernel_rfl) (by kernel_rfl) (by kernel_rfl) (fun _ _ _ h => h) (by rfl) hHeld ?_
            simp only [Act.put, List.setIfInBounds_toArray, List.set_cons_zero, List.set_cons_succ]
            refine held_skip (i := 32) rfl rfl (by kernel_rfl) (by kernel_rfl) (by kernel_rfl) (fun _ _ _ h => h) (by rfl) hHeld ?_
            simp only [Act.put, List.setIfInBounds_toArray, List.set_cons_zero, List.set_cons_succ]
            refine held_take (i := 33) (v := ?_) rfl rfl (by kernel_rfl) (by kernel_rfl) (by kernel_rfl) (fun _ _ _ h => h) (by rfl) hHeld ?_ ?_
            rotate_left
            · rintro wh ⟨z0, z1⟩
              go_simp
              (try with_reducible rfl)
            simp only [Act.put, List.setIfInBounds_toArray, List.set_cons_zero, List.set_cons_succ]
            refine held_take (i := 34) (v := ?_) rfl rfl (by kernel_rfl) (by kernel_rfl) (by kernel_rfl) (fun _ _ _ h => h) (by rfl) hHeld ?_ ?_
            rotate_left
            · rintro wh ⟨z0, z1⟩
              go_simp
              (try with_reducible rfl)
            simp only [Act.put, List.setIfInBounds_toArray, List.set_cons_zero, List.set_cons_succ]
            refine wpAnyH_done (by kernel_rfl) ?_ _
            have hbn : Below w.heap.size w wr.drew := hbr.trans (hB1.mono hbr.size)
            clear hB1 hn
            generalize wr.drew = wq at *
            go_wp2
            go_roundw
            case rel => exact ⟨0 + 1, by omega, by go_num, HN, hbn⟩
            case measure => (simp [intOf]; try omega)
          · obtain ⟨m, hm⟩ : ∃ m, k = m + 1 := ⟨k - 1, by omega⟩
            have hml : m < l.length := by omega
            obtain ⟨z, hze⟩ : ∃ z, l[m].1 = z := ⟨_, rfl⟩
            have hfz := (HF.out _ (List.getElem_mem hml)).1
            rw [hze] at hfz
            obtain ⟨hz0, _⟩ := fldCells_at l m hml
            rw [hze] at hz0
            have az : wr.cell? ⟨b, o + m * 2, none⟩ = some (.string z) := hall _ _ hz0
            have hgz : (l.getD (k - 1) default).1 = z := by
              rw [hm, Nat.add_sub_cancel, List.getD_eq_getElem?_getD, List.getElem?_eq_getElem hml]; exact hze
            have hkz : decide (k = 0) = false := decide_eq_false (by omega)
            rw [hgz, hnm, decide_eq_true hy2, hkz] at hstep hbad
            have k0 : (0 : Int) < (k : Int) := by omega
            have hw1 : IntKind.i64.wrap ((k : Int) - 1) = (m : Int) := by rw [IntKind.wrap_i64]; omega
            have hI1 : (m : Int) < (l.length : Int) := by omega
            have hah := fun W => rahead_any z x W hfz
            obtain ⟨lt, hlt⟩ : ∃ lt, ltS z x = lt := ⟨_, rfl⟩
            rw [hlt] at hstep hbad
            simp only [hlt] at hah
            have HM := Lib.hid hm
            clear hnm hy2 hze hkz hall hz0 hgz hfz hfs hlt hm
            cases lt
            · have HZ := hbad rfl
              clear hstep hbad
              go_upto_region 4 with fail
              refine wp_region_held_drew (S := (fun W => W.cell? ⟨b, o + k * 2, none⟩ = some (.string x) ∧ W.cell? ⟨b, o + k * 2 + 1, none⟩ = some (.string y) ∧ W.cell? ⟨b, o + m * 2, none⟩ = some (.string z))) (by kernel_rfl) ⟨a0, a1, az⟩ (fun hHeld => ?_)
              refine held_take (i := 0) (v := ?_) rfl rfl (by kernel_rfl) (by kernel_rfl) (by kernel_rfl) (fun _ _ _ h => h) (by rfl) hHeld ?_ ?_
              rotate_left
              · rintro wh ⟨z0, z1, z2⟩
                go_simp
                (try with_reducible rfl)
              simp only [Act.put, List.setIfInBounds_toArray, List.set_cons_zero, List.set_cons_succ]
              refine held_take (i := 1) (v := ?_) rfl rfl (by kernel_rfl) (by kernel_rfl) (by kernel_rfl) (fun _ _ _ h => h) (by rfl) hHeld ?_ ?_
              rotate_left
              · rintro wh ⟨z0, z1, z2⟩
                go_simp
                (try with_reducible rfl)
              simp only [Act.put, List.setIfInBounds_toArray, List.set_cons_zero, List.set_cons_succ]
              refine held_take (i := 2) (v := ?_) rfl rfl (by kernel_rfl) (by kernel_rfl) (by kernel_rfl) (fun _ _ _ h => h) (by rfl) hHeld ?_ ?_
              rotate_left
              · rintro wh ⟨z0, z1, z2⟩
                go_simp
                (try with_reducible rfl)
              simp only [Act.put, List.setIfInBounds_toArray, List.set_cons_zero, List.set_cons_succ]
              refine held_take (i := 3) (v := ?_) rfl rfl (by kernel_rfl) (by kernel_rfl) (by kernel_rfl) (fun _ _ _ h => h) (by rfl) hHeld ?_ ?_
              rotate_left
              · rintro wh ⟨z0, z1, z2⟩
                go_simp
                (try with_reducible rfl)
              simp only [Act.put, List.setIfInBounds_toArray, List.set_cons_zero, List.set_cons_succ]
              refine held_take (i := 4) (v := ?_) rfl rfl (by kernel_rfl) (by kernel_rfl) (by kernel_rfl) (fun _ _ _ h => h) (by rfl) hHeld ?_ ?_
              rotate_left
              · rintro wh ⟨z0, z1, z2⟩
                go_simp
                (try with_reducible rfl)
              simp only [Act.put, List.setIfInBounds_toArray, List.set_cons_zero, List.set_cons_succ]
              refine held_call (i := 5) rfl (by kernel_rfl) (by rfl) (fun K hK => ?_)
              (go_simp; go_at_call 35; refine (hn _).mono ?_; rintro e w1 ⟨rfl, rfl⟩; have hB1 : Below wr.heap.size wr wr.drew := (Below.refl _ _).drew)
              refine hK.out _ _ ⟨keep_cell a0 hB1 hwb, keep_cell a1 hB1 hwb, keep_cell az hB1 hwb⟩ (fun hHeld => ?_)
              clear hK K
              (try simp only [Act.put, List.setIfInBounds_toArray, List.set_cons_zero, List.set_cons_succ])
              refine held_take (i := 6) (v := ?_) rfl rfl (by kernel_rfl) (by kernel_rfl) (by kernel_rfl) (fun _ _ _ h => h) (by rfl) hHeld ?_ ?_
              rotate_left
              · rintro wh ⟨z0, z1, z2⟩
                go_simp
                (try with_reducible rfl)
              simp only [Act.put, List.setIfInBounds_toArray, List.set_cons_zero, List.set_cons_succ]
              refine held_take (i := 7) (v := ?_) rfl rfl (by kernel_rfl) (by kernel_rfl) (by kernel_rfl) (fun _ _ _ h => h) (by rfl) hHeld ?_ ?_
              rotate_left
              · rintro wh ⟨z0, z1, z2⟩
                go_simp
                (try with_reducible rfl)
              simp only [Act.put, List.setIfInBounds_toArray, List.set_cons_zero, List.set_cons_succ]
              refine held_take (i := 8) (v := ?_) rfl rfl (by kernel_rfl) (by kernel_rfl) (by kernel_rfl) (fun _ _ _ h => h) (by rfl) hHeld ?_ ?_
              rotate_left
              · rintro wh ⟨z0, z1, z2⟩
                go_simp
                (try with_reducible rfl)
              simp only [Act.put, List.setIfInBounds_toArray, List.set_cons_zero, List.set_cons_succ]
              refine held_take (i := 9) (v := ?_) rfl rfl (by kernel_rfl) (by kernel_rfl) (by kernel_rfl) (fun _ _ _ h => h) (by rfl) hHeld ?_ ?_
              rotate_left
              · rintro wh ⟨z0, z1, z2⟩
                go_simp
                (try with_reducible rfl)
              simp only [Act.put, List.setIfInBounds_toArray, List.set_cons_zero, List.set_cons_succ]
              refine held_take (i := 10) (v := ?_) rfl rfl (by kernel_rfl) (by kernel_rfl) (by kernel_rfl) (fun _ _ _ h => h) (by rfl) hHeld ?_ ?_
              rotate_left
              · rintro wh ⟨z0, z1, z2⟩
                go_simp
                (try with_reducible rfl)
              simp only [Act.put, List.setIfInBounds_toArray, List.set_cons_zero, List.set_cons_succ]
              refine held_take (i := 11) (v := ?_) rfl rfl (by kernel_rfl) (by kernel_rfl) (by kernel_rfl) (fun _ _ _ h => h) (by rfl) hHeld ?_ ?_
              rotate_left
              · rintro wh ⟨z0, z1, z2⟩
                go_simp
                (try with_reducible rfl)
              simp only [Act.put, List.setIfInBounds_toArray, List.set_cons_zero, List.set_cons_succ]
              refine held_take (i := 12) (v := ?_) rfl rfl (by kernel_rfl) (by kernel_rfl) (by kernel_rfl) (fun _ _ _ h => h) (by rfl) hHeld ?_ ?_
              rotate_left
              · rintro wh ⟨z0, z1, z2⟩
                go_simp
                (try with_reducible rfl)
              simp only [Act.put, List.setIfInBounds_toArray, List.set_cons_zero, List.set_cons_succ]
              refine held_take (i := 13) (v := ?_) rfl rfl (by kernel_rfl) (by kernel_rfl) (by kernel_rfl) (fun _ _ _ h => h) (by rfl) hHeld ?_ ?_
              rotate_left
              · rintro wh ⟨z0, z1, z2⟩
                go_simp
                (try with_reducible rfl)
              simp only [Act.put, List.setIfInBounds_toArray, List.set_cons_zero, List.set_cons_succ]
              refine held_take (i := 14) (v := ?_) rfl rfl (by kernel_rfl) (by kernel_rfl) (by kernel_rfl) (fun _ _ _ h => h) (by rfl) hHeld ?_ ?_
              rotate_left
              · rintro wh ⟨z0, z1, z2⟩
                go_simp
                (try with_reducible rfl)
              simp only [Act.put, List.setIfInBounds_toArray, List.set_cons_zero, List.set_cons_succ]
              refine held_take (i := 15) (v := ?_) rfl rfl (by kernel_rfl) (by kernel_rfl) (by kernel_rfl) (fun _ _ _ h => h) (by rfl) hHeld ?_ ?_
              rotate_left
              · rintro wh ⟨z0, z1, z2⟩
                go_simp
                (try with_reducible rfl)
              simp only [Act.put, List.setIfInBounds_toArray, List.set_cons_zero, List.set_cons_succ]
              refine held_take (i := 16) (v := ?_) rfl rfl (by kernel_rfl) (by kernel_rfl) (by kernel_rfl) (fun _ _ _ h => h) (by rfl) hHeld ?_ ?_
              rotate_left
              · rintro wh ⟨z0, z1, z2⟩
                go_simp
                (try with_reducible rfl)
              simp only [Act.put, List.setIfInBounds_toArray, List.set_cons_zero, List.set_cons_succ]
              refine held_take (i := 17) (v := ?_) rfl rfl (by kernel_rfl) (by kernel_rfl) (by kernel_rfl) (fun _ _ _ h => h) (by rfl) hHeld ?_ ?_
              rotate_left
              · rintro wh ⟨z0, z1, z2⟩
                go_simp
                (try with_reducible rfl)
              simp only [Act.put, List.setIfInBounds_toArray, List.set_cons_zero, List.set_cons_succ]
              refine held_take (i := 18) (v := ?_) rfl rfl (by kernel_rfl) (by kernel_rfl) (by kernel_rfl) (fun _ _ _ h => h) (by rfl) hHeld ?_ ?_
              rotate_left
              · rintro wh ⟨z0, z1, z2⟩
                go_simp
                (try with_reducible rfl)
              simp only [Act.put, List.setIfInBounds_toArray, List.set_cons_zero, List.set_cons_succ]
              refine held_take (i := 19) (v := ?_) rfl rfl (by kernel_rfl) (by kernel_rfl) (by kernel_rfl) (fun _ _ _ h => h) (by rfl) hHeld ?_ ?_
              rotate_left
              · rintro wh ⟨z0, z1, z2⟩
                go_simp
                (try with_reducible rfl)
              simp only [Act.put, List.setIfInBounds_toArray, List.set_cons_zero, List.set_cons_succ]
              refine held_take (i := 20) (v := ?_) rfl rfl (by kernel_rfl) (by kernel_rfl) (by kernel_rfl) (fun _ _ _ h => h) (by rfl) hHeld ?_ ?_
              rotate_left
              · rintro wh ⟨z0, z1, z2⟩
                go_simp
                (try with_reducible rfl)
              simp only [Act.put, List.setIfInBounds_toArray, List.set_cons_zero, List.set_cons_succ]
              refine held_take (i := 21) (v := ?_) rfl rfl (by kernel_rfl) (by kernel_rfl) (by kernel_rfl) (fun _ _ _ h => h) (by rfl) hHeld ?_ ?_
              rotate_left
              · rintro wh ⟨z0, z1, z2⟩
                go_simp
                (try with_reducible rfl)
              simp only [Act.put, List.setIfInBounds_toArray, List.set_cons_zero, List.set_cons_succ]
              refine held_take (i := 22) (v := ?_) rfl rfl (by kernel_rfl) (by kernel_rfl) (by kernel_rfl) (fun _ _ _ h => h) (by rfl) hHeld ?_ ?_
              rotate_left
              · rintro wh ⟨z0, z1, z2⟩
                go_simp
                (try with_reducible rfl)
              simp only [Act.put, List.setIfInBounds_toArray, List.set_cons_zero, List.set_cons_succ]
              refine held_take (i := 23) (v := ?_) rfl rfl (by kernel_rfl) (by kernel_rfl) (by kernel_rfl) (fun _ _ _ h => h) (by rfl) hHeld ?_ ?_
              rotate_left
              · rintro wh ⟨z0, z1, z2⟩
                go_simp
                (try with_reducible rfl)
              simp only [Act.put, List.setIfInBounds_toArray, List.set_cons_zero, List.set_cons_succ]
              refine held_take (i := 24) (v := ?_) rfl rfl (by kernel_rfl) (by kernel_rfl) (by kernel_rfl) (fun _ _ _ h => h) (by rfl) hHeld ?_ ?_
              rotate_left
              · rintro wh ⟨z0, z1, z2⟩
                go_simp
                (try with_reducible rfl)
              simp only [Act.put, List.setIfInBounds_toArray, List.set_cons_zero, List.set_cons_succ]
              refine held_take (i := 25) (v := ?_) rfl rfl (by kernel_rfl) (by kernel_rfl) (by kernel_rfl) (fun _ _ _ h => h) (by rfl) hHeld ?_ ?_
              rotate_left
              · rintro wh ⟨z0, z1, z2⟩
                go_simp
                (try with_reducible rfl)
              simp only [Act.put, List.setIfInBounds_toArray, List.set_cons_zero, List.set_cons_succ]
              refine held_take (i := 26) (v := ?_) rfl rfl (by kernel_rfl) (by kernel_rfl) (by kernel_rfl) (fun _ _ _ h => h) (by rfl) hHeld ?_ ?_
              rotate_left
              · rintro wh ⟨z0, z1, z2⟩
                go_simp
                (try with_reducible rfl)
              simp only [Act.put, List.setIfInBounds_toArray, List.set_cons_zero, List.set_cons_succ]
              refine held_take (i := 27) (v := ?_) rfl rfl (by kernel_rfl) (by kernel_rfl) (by kernel_rfl) (fun _ _ _ h => h) (by rfl) hHeld ?_ ?_
              rotate_left
              · rintro wh ⟨z0, z1, z2⟩
                go_simp
                (try with_reducible rfl)
              simp only [Act.put, List.setIfInBounds_toArray, List.set_cons_zero, List.set_cons_succ]
              refine held_take (i := 28) (v := ?_) rfl rfl (by kernel_rfl) (by kernel_rfl) (by kernel_rfl) (fun _ _ _ h => h) (by rfl) hHeld ?_ ?_
              rotate_left
              · rintro wh ⟨z0, z1, z2⟩
                go_simp
                (try with_reducible rfl)
              simp only [Act.put, List.setIfInBounds_toArray, List.set_cons_zero, List.set_cons_succ]
              refine held_take (i := 29) (v := ?_) rfl rfl (by kernel_rfl) (by kernel_rfl) (by kernel_rfl) (fun _ _ _ h => h) (by rfl) hHeld ?_ ?_
              rotate_left
              · rintro wh ⟨z0, z1, z2⟩
                go_simp
                (try with_reducible rfl)
              simp only [Act.put, List.setIfInBounds_toArray, List.set_cons_zero, List.set_cons_succ]
              refine held_take (i := 30) (v := ?_) rfl rfl (by kernel_rfl) (by kernel_rfl) (by kernel_rfl) (fun _ _ _ h => h) (by rfl) hHeld ?_ ?_
              rotate_left
              · rintro wh ⟨z0, z1, z2⟩
                go_simp
                (try with_reducible rfl)
              simp only [Act.put, List.setIfInBounds_toArray, List.set_cons_zero, List.set_cons_succ]
              refine held_call (i := 31) rfl (by kernel_rfl) (by rfl) (fun K hK => ?_)
              (go_simp; go_at_call 62; refine (hah _).mono ?_; rintro e w2 ⟨rfl, hb2⟩; have hB2 : Below wr.heap.size wr w2 := hB1.trans hb2)
              refine hK.out _ _ ⟨keep_cell a0 hB2 hwb, keep_cell a1 hB2 hwb, keep_cell az hB2 hwb⟩ (fun hHeld => ?_)
              clear hK K
              (try simp only [Act.put, List.setIfInBounds_toArray, List.set_cons_zero, List.set_cons_succ])
              refine held_take (i := 32) (v := ?_) rfl rfl (by kernel_rfl) (by kernel_rfl) (by kernel_rfl) (fun _ _ _ h => h) (by rfl) hHeld ?_ ?_
              rotate_left
              · rintro wh ⟨z0, z1, z2⟩
                go_simp
                (try with_reducible rfl)
              simp only [Act.put, List.setIfInBounds_toArray, List.set_cons_zero, List.set_cons_succ]
              refine held_take (i := 33) (v := ?_) rfl rfl (by kernel_rfl) (by kernel_rfl) (by kernel_rfl) (fun _ _ _ h => h) (by rfl) hHeld ?_ ?_
              rotate_left
              · rintro wh ⟨z0, z1, z2⟩
                go_simp
                (try with_reducible rfl)
              simp only [Act.put, List.setIfInBounds_toArray, List.set_cons_zero, List.set_cons_succ]
              refine held_take (i := 34) (v := ?_) rfl rfl (by kernel_rfl) (by kernel_rfl) (by kernel_rfl) (fun _ _ _ h => h) (by rfl) hHeld ?_ ?_
              rotate_left
              · rintro wh ⟨z0, z1, z2⟩
                go_simp
                (try with_reducible rfl)
              simp only [Act.put, List.setIfInBounds_toArray, List.set_cons_zero, List.set_cons_succ]
              refine wpAnyH_done (by kernel_rfl) ?_ _
              have hbn : Below w.heap.size w w2 := hbr.trans (hB2.mono hbr.size)
              clear hB1 hB2 hb2 hn hah
              go_wp2
              go_ret
              exact ⟨by rw [HZ.out]; rfl, hbn⟩
            · have HN := hstep rfl
              clear hstep hbad
              go_upto_region 4 with fail
              refine wp_region_held_drew (S := (fun W => W.cell? ⟨b, o + k * 2, none⟩ = some (.string x) ∧ W.cell? ⟨b, o + k * 2 + 1, none⟩ = some (.string y) ∧ W.cell? ⟨b, o + m * 2, none⟩ = some (.string z))) (by kernel_rfl) ⟨a0, a1, az⟩ (fun hHeld => ?_)
              refine held_take (i := 0) (v := ?_) rfl rfl (by kernel_rfl) (by kernel_rfl) (by kernel_rfl) (fun _ _ _ h => h) (by rfl) hHeld ?_ ?_
              rotate_left
              · rintro wh ⟨z0, z1, z2⟩
                go_simp
                (try with_reducible rfl)
              simp only [Act.put, List.setIfInBounds_toArray, List.set_cons_zero, List.set_cons_succ]
              refine held_take (i := 1) (v := ?_) rfl rfl (by kernel_rfl) (by kernel_rfl) (by kernel_rfl) (fun _ _ _ h => h) (by rfl) hHeld ?_ ?_
              rotate_left
              · rintro wh ⟨z0, z1, z2⟩
                go_simp
                (try with_reducible rfl)
              simp only [Act.put, List.setIfInBounds_toArray, List.set_cons_zero, List.set_cons_succ]
              refine held_take (i := 2) (v := ?_) rfl rfl (by kernel_rfl) (by kernel_rfl) (by kernel_rfl) (fun _ _ _ h => h) (by rfl) hHeld ?_ ?_
              rotate_left
              · rintro wh ⟨z0, z1, z2⟩
                go_simp
                (try with_reducible rfl)
              simp only [Act.put, List.setIfInBounds_toArray, List.set_cons_zero, List.set_cons_succ]
              refine held_take (i := 3) (v := ?_) rfl rfl (by kernel_rfl) (by kernel_rfl) (by kernel_rfl) (fun _ _ _ h => h) (by rfl) hHeld ?_ ?_
              rotate_left
              · rintro wh ⟨z0, z1, z2⟩
                go_simp
                (try with_reducible rfl)
              simp only [Act.put, List.setIfInBounds_toArray, List.set_cons_zero, List.set_cons_succ]
              refine held_take (i := 4) (v := ?_) rfl rfl (by kernel_rfl) (by kernel_rfl) (by kernel_rfl) (fun _ _ _ h => h) (by rfl) hHeld ?_ ?_
              rotate_left
              · rintro wh ⟨z0, z1, z2⟩
                go_simp
                (try with_reducible rfl)
              simp only [Act.put, List.setIfInBounds_toArray, List.set_cons_zero, List.set_cons_succ]
              refine held_call (i := 5) rfl (by kernel_rfl) (by rfl) (fun K hK => ?_)
              (go_simp; go_at_call 35; refine (hn _).mono ?_; rintro e w1 ⟨rfl, rfl⟩; have hB1 : Below wr.heap.size wr wr.drew := (Below.refl _ _).drew)
              refine hK.out _ _ ⟨keep_cell a0 hB1 hwb, keep_cell a1 hB1 hwb, keep_cell az hB1 hwb⟩ (fun hHeld => ?_)
              clear hK K
              (try simp only [Act.put, List.setIfInBounds_toArray, List.set_cons_zero, List.set_cons_succ])
              refine held_take (i := 6) (v := ?_) rfl rfl (by kernel_rfl) (by kernel_rfl) (by kernel_rfl) (fun _ _ _ h => h) (by rfl) hHeld ?_ ?_
              rotate_left
              · rintro wh ⟨z0, z1, z2⟩
                go_simp
                (try with_reducible rfl)
              simp only [Act.put, List.setIfInBounds_toArray, List.set_cons_zero, List.set_cons_succ]
              refine held_take (i := 7) (v := ?_) rfl rfl (by kernel_rfl) (by kernel_rfl) (by kernel_rfl) (fun _ _ _ h => h) (by rfl) hHeld ?_ ?_
              rotate_left
              · rintro wh ⟨z0, z1, z2⟩
                go_simp
                (try with_reducible rfl)
              simp only [Act.put, List.setIfInBounds_toArray, List.set_cons_zero, List.set_cons_succ]
              refine held_take (i := 8) (v := ?_) rfl rfl (by kernel_rfl) (by kernel_rfl) (by kernel_rfl) (fun _ _ _ h => h) (by rfl) hHeld ?_ ?_
              rotate_left
              · rintro wh ⟨z0, z1, z2⟩
                go_simp
                (try with_reducible rfl)
              simp only [Act.put, List.setIfInBounds_toArray, List.set_cons_zero, List.set_cons_succ]
              refine held_take (i := 9) (v := ?_) rfl rfl (by kernel_rfl) (by kernel_rfl) (by kernel_rfl) (fun _ _ _ h => h) (by rfl) hHeld ?_ ?_
              rotate_left
              · rintro wh ⟨z0, z1, z2⟩
                go_simp
                (try with_reducible rfl)
              simp only [Act.put, List.setIfInBounds_toArray, List.set_cons_zero, List.set_cons_succ]
              refine held_take (i := 10) (v := ?_) rfl rfl (by kernel_rfl) (by kernel_rfl) (by kernel_rfl) (fun _ _ _ h => h) (by rfl) hHeld ?_ ?_
              rotate_left
              · rintro wh ⟨z0, z1, z2⟩
                go_simp
                (try with_reducible rfl)
              simp only [Act.put, List.setIfInBounds_toArray, List.set_cons_zero, List.set_cons_succ]
              refine held_take (i := 11) (v := ?_) rfl rfl (by kernel_rfl) (by kernel_rfl) (by kernel_rfl) (fun _ _ _ h => h) (by rfl) hHeld ?_ ?_
              rotate_left
              · rintro wh ⟨z0, z1, z2⟩
                go_simp
                (try with_reducible rfl)
              simp only [Act.put, List.setIfInBounds_toArray, List.set_cons_zero, List.set_cons_succ]
              refine held_take (i := 12) (v := ?_) rfl rfl (by kernel_rfl) (by kernel_rfl) (by kernel_rfl) (fun _ _ _ h => h) (by rfl) hHeld ?_ ?_
              rotate_left
              · rintro wh ⟨z0, z1, z2⟩
                go_simp
                (try with_reducible rfl)
              simp only [Act.put, List.setIfInBounds_toArray, List.set_cons_zero, List.set_cons_succ]
              refine held_take (i := 13) (v := ?_) rfl rfl (by kernel_rfl) (by kernel_rfl) (by kernel_rfl) (fun _ _ _ h => h) (by rfl) hHeld ?_ ?_
              rotate_left
              · rintro wh ⟨z0, z1, z2⟩
                go_simp
                (try with_reducible rfl)
              simp only [Act.put, List.setIfInBounds_toArray, List.set_cons_zero, List.set_cons_succ]
              refine held_take (i := 14) (v := ?_) rfl rfl (by kernel_rfl) (by kernel_rfl) (by kernel_rfl) (fun _ _ _ h => h) (by rfl) hHeld ?_ ?_
              rotate_left
              · rintro wh ⟨z0, z1, z2⟩
                go_simp
                (try with_reducible rfl)
              simp only [Act.put, List.setIfInBounds_toArray, List.set_cons_zero, List.set_cons_succ]
              refine held_take (i := 15) (v := ?_) rfl rfl (by kernel_rfl) (by kernel_rfl) (by kernel_rfl) (fun _ _ _ h => h) (by rfl) hHeld ?_ ?_
              rotate_left
              · rintro wh ⟨z0, z1, z2⟩
                go_simp
                (try with_reducible rfl)
              simp only [Act.put, List.setIfInBounds_toArray, List.set_cons_zero, List.set_cons_succ]
              refine held_take (i := 16) (v := ?_) rfl rfl (by kernel_rfl) (by kernel_rfl) (by kernel_rfl) (fun _ _ _ h => h) (by rfl) hHeld ?_ ?_
              rotate_left
              · rintro wh ⟨z0, z1, z2⟩
                go_simp
                (try with_reducible rfl)
              simp only [Act.put, List.setIfInBounds_toArray, List.set_cons_zero, List.set_cons_succ]
              refine held_take (i := 17) (v := ?_) rfl rfl (by kernel_rfl) (by kernel_rfl) (by kernel_rfl) (fun _ _ _ h => h) (by rfl) hHeld ?_ ?_
              rotate_left
              · rintro wh ⟨z0, z1, z2⟩
                go_simp
                (try with_reducible rfl)
              simp only [Act.put, List.setIfInBounds_toArray, List.set_cons_zero, List.set_cons_succ]
              refine held_take (i := 18) (v := ?_) rfl rfl (by kernel_rfl) (by kernel_rfl) (by kernel_rfl) (fun _ _ _ h => h) (by rfl) hHeld ?_ ?_
              rotate_left
              · rintro wh ⟨z0, z1, z2⟩
                go_simp
                (try with_reducible rfl)
              simp only [Act.put, List.setIfInBounds_toArray, List.set_cons_zero, List.set_cons_succ]
              refine held_take (i := 19) (v := ?_) rfl rfl (by kernel_rfl) (by kernel_rfl) (by kernel_rfl) (fun _ _ _ h => h) (by rfl) hHeld ?_ ?_
              rotate_left
              · rintro wh ⟨z0, z1, z2⟩
                go_simp
                (try with_reducible rfl)
              simp only [Act.put, List.setIfInBounds_toArray, List.set_cons_zero, List.set_cons_succ]
              refine held_take (i := 20) (v := ?_) rfl rfl (by kernel_rfl) (by kernel_rfl) (by kernel_rfl) (fun _ _ _ h => h) (by rfl) hHeld ?_ ?_
              rotate_left
              · rintro wh ⟨z0, z1, z2⟩
                go_simp
                (try with_reducible rfl)
              simp only [Act.put, List.setIfInBounds_toArray, List.set_cons_zero, List.set_cons_succ]
              refine held_take (i := 21) (v := ?_) rfl rfl (by kernel_rfl) (by kernel_rfl) (by kernel_rfl) (fun _ _ _ h => h) (by rfl) hHeld ?_ ?_
              rotate_left
              · rintro wh ⟨z0, z1, z2⟩
                go_simp
                (try with_reducible rfl)
              simp only [Act.put, List.setIfInBounds_toArray, List.set_cons_zero, List.set_cons_succ]
              refine held_take (i := 22) (v := ?_) rfl rfl (by kernel_rfl) (by kernel_rfl) (by kernel_rfl) (fun _ _ _ h => h) (by rfl) hHeld ?_ ?_
              rotate_left
              · rintro wh ⟨z0, z1, z2⟩
                go_simp
                (try with_reducible rfl)
              simp only [Act.put, List.setIfInBounds_toArray, List.set_cons_zero, List.set_cons_succ]
              refine held_take (i := 23) (v := ?_) rfl rfl (by kernel_rfl) (by kernel_rfl) (by kernel_rfl) (fun _ _ _ h => h) (by rfl) hHeld ?_ ?_
              rotate_left
              · rintro wh ⟨z0, z1, z2⟩
                go_simp
                (try with_reducible rfl)
              simp only [Act.put, List.setIfInBounds_toArray, List.set_cons_zero, List.set_cons_succ]
              refine held_take (i := 24) (v := ?_) rfl rfl (by kernel_rfl) (by kernel_rfl) (by kernel_rfl) (fun _ _ _ h => h) (by rfl) hHeld ?_ ?_
              rotate_left
              · rintro wh ⟨z0, z1, z2⟩
                go_simp
                (try with_reducible rfl)
              simp only [Act.put, List.setIfInBounds_toArray, List.set_cons_zero, List.set_cons_succ]
              refine held_take (i := 25) (v := ?_) rfl rfl (by kernel_rfl) (by kernel_rfl) (by kernel_rfl) (fun _ _ _ h => h) (by rfl) hHeld ?_ ?_
              rotate_left
              · rintro wh ⟨z0, z1, z2⟩
                go_simp
                (try with_reducible rfl)
              simp only [Act.put, List.setIfInBounds_toArray, List.set_cons_zero, List.set_cons_succ]
              refine held_take (i := 26) (v := ?_) rfl rfl (by kernel_rfl) (by kernel_rfl) (by kernel_rfl) (fun _ _ _ h => h) (by rfl) hHeld ?_ ?_
              rotate_left
              · rintro wh ⟨z0, z1, z2⟩
                go_simp
                (try with_reducible rfl)
              simp only [Act.put, List.setIfInBounds_toArray, List.set_cons_zero, List.set_cons_succ]
              refine held_take (i := 27) (v := ?_) rfl rfl (by kernel_rfl) (by kernel_rfl) (by kernel_rfl) (fun _ _ _ h => h) (by rfl) hHeld ?_ ?_
              rotate_left
              · rintro wh ⟨z0, z1, z2⟩
                go_simp
                (try with_reducible rfl)
              simp only [Act.put, List.setIfInBounds_toArray, List.set_cons_zero, List.set_cons_succ]
              refine held_take (i := 28) (v := ?_) rfl rfl (by kernel_rfl) (by kernel_rfl) (by kernel_rfl) (fun _ _ _ h => h) (by rfl) hHeld ?_ ?_
              rotate_left
              · rintro wh ⟨z0, z1, z2⟩
                go_simp
                (try with_reducible rfl)
              simp only [Act.put, List.setIfInBounds_toArray, List.set_cons_zero, List.set_cons_succ]
              refine held_take (i := 29) (v := ?_) rfl rfl (by kernel_rfl) (by kernel_rfl) (by kernel_rfl) (fun _ _ _ h => h) (by rfl) hHeld ?_ ?_
              rotate_left
              · rintro wh ⟨z0, z1, z2⟩
                go_simp
                (try with_reducible rfl)
              simp only [Act.put, List.setIfInBounds_toArray, List.set_cons_zero, List.set_cons_succ]
              refine held_take (i := 30) (v := ?_) rfl rfl (by kernel_rfl) (by kernel_rfl) (by kernel_rfl) (fun _ _ _ h => h) (by rfl) hHeld ?_ ?_
              rotate_left
              · rintro wh ⟨z0, z1, z2⟩
                go_simp
                (try with_reducible rfl)
              simp only [Act.put, List.setIfInBounds_toArray, List.set_cons_zero, List.set_cons_succ]
              refine held_call (i := 31) rfl (by kernel_rfl) (by rfl) (fun K hK => ?_)
              (go_simp; go_at_call 62; refine (hah _).mono ?_; rintro e w2 ⟨rfl, hb2⟩; have hB2 : Below wr.heap.size wr w2 := hB1.trans hb2)
              refine hK.out _ _ ⟨keep_cell a0 hB2 hwb, keep_cell a1 hB2 hwb, keep_cell az hB2 hwb⟩ (fun hHeld => ?_)
              clear hK K
              (try simp only [Act.put, List.setIfInBounds_toArray, List.set_cons_zero, List.set_cons_succ])
              refine held_take (i := 32) (v := ?_) rfl rfl (by kernel_rfl) (by kernel_rfl) (by kernel_rfl) (fun _ _ _ h => h) (by rfl) hHeld ?_ ?_
              rotate_left
              · rintro wh ⟨z0, z1, z2⟩
                go_simp
                (try with_reducible rfl)
              simp only [Act.put, List.setIfInBounds_toArray, List.set_cons_zero, List.set_cons_succ]
              refine held_take (i := 33) (v := ?_) rfl rfl (by kernel_rfl) (by kernel_rfl) (by kernel_rfl) (fun _ _ _ h => h) (by rfl) hHeld ?_ ?_
              rotate_left
              · rintro wh ⟨z0, z1, z2⟩
                go_simp
                (try with_reducible rfl)
              simp only [Act.put, List.setIfInBounds_toArray, List.set_cons_zero, List.set_cons_succ]
              refine held_take (i := 34) (v := ?_) rfl rfl (by kernel_rfl) (by kernel_rfl) (by kernel_rfl) (fun _ _ _ h => h) (by rfl) hHeld ?_ ?_
              rotate_left
              · rintro wh ⟨z0, z1, z2⟩
                go_simp
                (try with_reducible rfl)
              simp only [Act.put, List.setIfInBounds_toArray, List.set_cons_zero, List.set_cons_succ]
              refine wpAnyH_done (by kernel_rfl) ?_ _
              have hbn : Below w.heap.size w w2 := hbr.trans (hB2.mono hbr.size)
              clear hB1 hB2 hb2 hn hah
              go_wp2
              go_roundw
              case rel => exact ⟨k + 1, by omega, by go_num, HN, hbn⟩
              case measure => (simp [intOf]; try omega)
        · have g1 : (200 : Int) < (y.size : Int) := by omega
          have HZ := hbad (by rw [hnm, decide_eq_false hy2]; rfl)
          clear hstep hbad hall hnm hy2 hfs
          go_upto_region 4 with fail
          refine wp_region_held_drew (S := (fun W => W.cell? ⟨b, o + k * 2, none⟩ = some (.string x) ∧ W.cell? ⟨b, o + k * 2 + 1, none⟩ = some (.string y))) (by kernel_rfl) ⟨a0, a1⟩ (fun hHeld => ?_)
          refine held_take (i := 0) (v := ?_) rfl rfl (by kernel_rfl) (by kernel_rfl) (by kernel_rfl) (fun _ _ _ h => h) (by rfl) hHeld ?_ ?_
          rotate_left
          · rintro wh ⟨z0, z1⟩
            go_simp
            (try with_reducible rfl)
          simp only [Act.put, List.setIfInBounds_toArray, List.set_cons_zero, List.set_cons_succ]
          refine held_take (i := 1) (v := ?_) rfl rfl (by kernel_rfl) (by kernel_rfl) (by kernel_rfl) (fun _ _ _ h => h) (by rfl) hHeld ?_ ?_
          rotate_left
          · rintro wh ⟨z0, z1⟩
            go_simp
            (try with_reducible rfl)
          simp only [Act.put, List.setIfInBounds_toArray, List.set_cons_zero, List.set_cons_succ]
          refine held_take (i := 2) (v := ?_) rfl rfl (by kernel_rfl) (by kernel_rfl) (by kernel_rfl) (fun _ _ _ h => h) (by rfl) hHeld ?_ ?_
          rotate_left
          · rintro wh ⟨z0, z1⟩
            go_simp
            (try with_reducible rfl)
          simp only [Act.put, List.setIfInBounds_toArray, List.set_cons_zero, List.set_cons_succ]
          refine held_take (i := 3) (v := ?_) rfl rfl (by kernel_rfl) (by kernel_rfl) (by kernel_rfl) (fun _ _ _ h => h) (by rfl) hHeld ?_ ?_
          rotate_left
          · rintro wh ⟨z0, z1⟩
            go_simp
            (try with_reducible rfl)
          simp only [Act.put, List.setIfInBounds_toArray, List.set_cons_zero, List.set_cons_succ]
          refine held_take (i := 4) (v := ?_) rfl rfl (by kernel_rfl) (by kernel_rfl) (by kernel_rfl) (fun _ _ _ h => h) (by rfl) hHeld ?_ ?_
          rotate_left
          · rintro wh ⟨z0, z1⟩
            go_simp
            (try with_reducible rfl)
          simp only [Act.put, List.setIfInBounds_toArray, List.set_cons_zero, List.set_cons_succ]
          refine held_call (i := 5) rfl (by kernel_rfl) (by rfl) (fun K hK => ?_)
          (go_simp; go_at_call 35; refine (hn _).mono ?_; rintro e w1 ⟨rfl, rfl⟩; have hB1 : Below wr.heap.size wr wr.drew := (Below.refl _ _).drew)
          refine hK.out _ _ ⟨keep_cell a0 hB1 hwb, keep_cell a1 hB1 hwb⟩ (fun hHeld => ?_)
          clear hK K
          (try simp only [Act.put, List.setIfInBounds_toArray, List.set_cons_zero, List.set_cons_succ])
          refine held_take (i := 6) (v := ?_) rfl rfl (by kernel_rfl) (by kernel_rfl) (by kernel_rfl) (fun _ _ _ h => h) (by rfl) hHeld ?_ ?_
          rotate_left
          · rintro wh ⟨z0, z1⟩
            go_simp
            (try with_reducible rfl)
          simp only [Act.put, List.setIfInBounds_toArray, List.set_cons_zero, List.set_cons_succ]
          refine held_take (i := 7) (v := ?_) rfl rfl (by kernel_rfl) (by kernel_rfl) (by kernel_rfl) (fun _ _ _ h => h) (by rfl) hHeld ?_ ?_
          rotate_left
          · rintro wh ⟨z0, z1⟩
            go_simp
            (try with_reducible rfl)
          simp only [Act.put, List.setIfInBounds_toArray, List.set_cons_zero, List.set_cons_succ]
          refine held_take (i := 8) (v := ?_) rfl rfl (by kernel_rfl) (by kernel_rfl) (by kernel_rfl) (fun _ _ _ h => h) (by rfl) hHeld ?_ ?_
          rotate_left
          · rintro wh ⟨z0, z1⟩
            go_simp
            (try with_reducible rfl)
          simp only [Act.put, List.setIfInBounds_toArray, List.set_cons_zero, List.set_cons_succ]
          refine held_take (i := 9) (v := ?_) rfl rfl (by kernel_rfl) (by kernel_rfl) (by kernel_rfl) (fun _ _ _ h => h) (by rfl) hHeld ?_ ?_
          rotate_left
          · rintro wh ⟨z0, z1⟩
            go_simp
            (try with_reducible rfl)
          simp only [Act.put, List.setIfInBounds_toArray, List.set_cons_zero, List.set_cons_succ]
          refine held_take (i := 10) (v := ?_) rfl rfl (by kernel_rfl) (by kernel_rfl) (by kernel_rfl) (fun _ _ _ h => h) (by rfl) hHeld ?_ ?_
          rotate_left
          · rintro wh ⟨z0, z1⟩
            go_simp
            (try with_reducible rfl)
          simp only [Act.put, List.setIfInBounds_toArray, List.set_cons_zero, List.set_cons_succ]
          refine held_take (i := 11) (v := ?_) rfl rfl (by kernel_rfl) (by kernel_rfl) (by kernel_rfl) (fun _ _ _ h => h) (by rfl) hHeld ?_ ?_
          rotate_left
          · rintro wh ⟨z0, z1⟩
            go_simp
            (try with_reducible rfl)
          simp only [Act.put, List.setIfInBounds_toArray, List.set_cons_zero, List.set_cons_succ]
          refine held_take (i := 12) (v := ?_) rfl rfl (by kernel_rfl) (by kernel_rfl) (by kernel_rfl) (fun _ _ _ h => h) (by rfl) hHeld ?_ ?_
          rotate_left
          · rintro wh ⟨z0, z1⟩
            go_simp
            (try with_reducible rfl)
          simp only [Act.put, List.setIfInBounds_toArray, List.set_cons_zero, List.set_cons_succ]
          refine held_take (i := 13) (v := ?_) rfl rfl (by kernel_rfl) (by kernel_rfl) (by kernel_rfl) (fun _ _ _ h => h) (by rfl) hHeld ?_ ?_
          rotate_left
          · rintro wh ⟨z0, z1⟩
            go_simp
            (try with_reducible rfl)
          simp only [Act.put, List.setIfInBounds_toArray, List.set_cons_zero, List.set_cons_succ]
          refine held_take (i := 14) (v := ?_) rfl rfl (by kernel_rfl) (by kernel_rfl) (by kernel_rfl) (fun _ _ _ h => h) (by rfl) hHeld ?_ ?_
          rotate_left
          · rintro wh ⟨z0, z1⟩
            go_simp
            (try with_reducible rfl)
          simp only [Act.put, List.setIfInBounds_toArray, List.set_cons_zero, List.set_cons_succ]
          refine held_take (i := 15) (v := ?_) rfl rfl (by kernel_rfl) (by kernel_rfl) (by kernel_rfl) (fun _ _ _ h => h) (by rfl) hHeld ?_ ?_
          rotate_left
          · rintro wh ⟨z0, z1⟩
            go_simp
            (try with_reducible rfl)
          simp only [Act.put, List.setIfInBounds_toArray, List.set_cons_zero, List.set_cons_succ]
          refine held_take (i := 16) (v := ?_) rfl rfl (by kernel_rfl) (by kernel_rfl) (by kernel_rfl) (fun _ _ _ h => h) (by rfl) hHeld ?_ ?_
          rotate_left
          · rintro wh ⟨z0, z1⟩
            go_simp
            (try with_reducible rfl)
          simp only [Act.put, List.setIfInBounds_toArray, List.set_cons_zero, List.set_cons_succ]
          refine held_skip (i := 17) rfl rfl (by kernel_rfl) (by kernel_rfl) (by kernel_rfl) (fun _ _ _ h => h) (by rfl) hHeld ?_
          simp only [Act.put, List.setIfInBounds_toArray, List.set_cons_zero, List.set_cons_succ]
          refine held_skip (i := 18) rfl rfl (by kernel_rfl) (by kernel_rfl) (by kernel_rfl) (fun _ _ _ h => h) (by rfl) hHeld ?_
          simp only [Act.put, List.setIfInBounds_toArray, List.set_cons_zero, List.set_cons_succ]
          refine held_skip (i := 19) rfl rfl (by kernel_rfl) (by kernel_rfl) (by kernel_rfl) (fun _ _ _ h => h) (by rfl) hHeld ?_
          simp only [Act.put, List.setIfInBounds_toArray, List.set_cons_zero, List.set_cons_succ]
          refine held_skip (i := 20) rfl rfl (by kernel_rfl) (by kernel_rfl) (by kernel_rfl) (fun _ _ _ h => h) (by rfl) hHeld ?_
          simp only [Act.put, List.setIfInBounds_toArray, List.set_cons_zero, List.set_cons_succ]
          refine held_skip (i := 21) rfl rfl (by kernel_rfl) (by kernel_rfl) (by kernel_rfl) (fun _ _ _ h => h) (by rfl) hHeld ?_
          simp only [Act.put, List.setIfInBounds_toArray, List.set_cons_zero, List.set_cons_succ]
          refine held_skip (i := 22) rfl rfl (by kernel_rfl) (by kernel_rfl) (by kernel_rfl) (fun _ _ _ h => h) (by rfl) hHeld ?_
          simp only [Act.put, List.setIfInBounds_toArray, List.set_cons_zero, List.set_cons_succ]
          refine held_skip (i := 23) rfl rfl (by kernel_rfl) (by kernel_rfl) (by kernel_rfl) (fun _ _ _ h => h) (by rfl) hHeld ?_
          simp only [Act.put, List.setIfInBounds_toArray, List.set_cons_zero, List.set_cons_succ]
          refine held_skip (i := 24) rfl rfl (by kernel_rfl) (by kernel_rfl) (by kernel_rfl) (fun _ _ _ h => h) (by rfl) hHeld ?_
          simp only [Act.put, List.setIfInBounds_toArray, List.set_cons_zero, List.set_cons_succ]
          refine held_skip (i := 25) rfl rfl (by kernel_rfl) (by kernel_rfl) (by kernel_rfl) (fun _ _ _ h => h) (by rfl) hHeld ?_
          simp only [Act.put, List.setIfInBounds_toArray, List.set_cons_zero, List.set_cons_succ]
          refine held_skip (i := 26) rfl rfl (by kernel_rfl) (by kernel_rfl) (by kernel_rfl) (fun _ _ _ h => h) (by rfl) hHeld ?_
          simp only [Act.put, List.setIfInBounds_toArray, List.set_cons_zero, List.set_cons_succ]
          refine held_skip (i := 27) rfl rfl (by kernel_rfl) (by kernel_rfl) (by kernel_rfl) (fun _ _ _ h => h) (by rfl) hHeld ?_
          simp only [Act.put, List.setIfInBounds_toArray, List.set_cons_zero, List.set_cons_succ]
          refine held_skip (i := 28) rfl rfl (by kernel_rfl) (by kernel_rfl) (by kernel_rfl) (fun _ _ _ h => h) (by rfl) hHeld ?_
          simp only [Act.put, List.setIfInBounds_toArray, List.set_cons_zero, List.set_cons_succ]
          refine held_skip (i := 29) rfl rfl (by kernel_rfl) (by kernel_rfl) (by kernel_rfl) (fun _ _ _ h => h) (by rfl) hHeld ?_
          simp only [Act.put, List.setIfInBounds_toArray, List.set_cons_zero, List.set_cons_succ]
          refine held_skip (i := 30) rfl rfl (by kernel_rfl) (by kernel_rfl) (by kernel_rfl) (fun _ _ _ h => h) (by rfl) hHeld ?_
          simp only [Act.put, List.setIfInBounds_toArray, List.set_cons_zero, List.set_cons_succ]
          refine held_skip (i := 31) rfl rfl (by kernel_rfl) (by kernel_rfl) (by kernel_rfl) (fun _ _ _ h => h) (by rfl) hHeld ?_
          simp only [Act.put, List.setIfInBounds_toArray, List.set_cons_zero, List.set_cons_succ]
          refine held_skip (i := 32) rfl rfl (by kernel_rfl) (by kernel_rfl) (by kernel_rfl) (fun _ _ _ h => h) (by rfl) hHeld ?_
          simp only [Act.put, List.setIfInBounds_toArray, List.set_cons_zero, List.set_cons_succ]
          refine held_skip (i := 33) rfl rfl (by kernel_rfl) (by kernel_rfl) (by kernel_rfl) (fun _ _ _ h => h) (by rfl) hHeld ?_
          simp only [Act.put, List.setIfInBounds_toArray, List.set_cons_zero, List.set_cons_succ]
          refine held_take (i := 34) (v := ?_) rfl rfl (by kernel_rfl) (by kernel_rfl) (by kernel_rfl) (fun _ _ _ h => h) (by rfl) hHeld ?_ ?_
          rotate_left
          · rintro wh ⟨z0, z1⟩
            go_simp
            (try with_reducible rfl)
          simp only [Act.put, List.setIfInBounds_toArray, List.set_cons_zero, List.set_cons_succ]
          refine wpAnyH_done (by kernel_rfl) ?_ _
          have hbn : Below w.heap.size w wr.drew := hbr.trans (hB1.mono hbr.size)
          clear hB1 hn
          generalize wr.drew = wq at *
          go_wp2
          go_ret
          exact ⟨by rw [HZ.out]; rfl, hbn⟩
    · obtain rfl : k = l.length := by omega
      have HG : Hid (rightF l = decide (l.length ≤ 8)) := rightF_good HT.out
      clear HT
      by_cases h8 : l.length ≤ 8
      · have h8' : ((l.length : Int) ≤ 8) := by omega
        go_wp2
        go_ret
        exact ⟨by rw [HG.out]; simp; omega, hbr⟩
      · have h8' : (8 : Int) < (l.length : Int) := by omega
        go_wp2
        go_ret
        exact ⟨by rw [HG.out]; simp; omega, hbr⟩
end Go.Proofs.Ytipnhpfpppblhaa

/- lychgateref08.named, by, when: contracts. -/
namespace Go.Proofs.Ytipnhpfpppblhaa
open Go.RowKit
/-! ### plain steps -/
def okUp {α : Type} (nm : α → ByteArray) (p : α → Bool) (l : List α) (k : Nat) : Prop :=
  (∀ i (h : i < l.length), i < k → p l[i] = true) ∧ ∀ i j (hi : i < l.length) (_ : j < l.length), j < i → i < k → nm l[j] ≠ nm l[i]
theorem okUp_zero {α : Type} {nm : α → ByteArray} {p : α → Bool} {l : List α} : okUp nm p l 0 := ⟨fun _ _ h => absurd h (Nat.not_lt_zero _), fun _ _ _ _ _ h => absurd h (Nat.not_lt_zero _)⟩
theorem okUp_succ {α : Type} {nm : α → ByteArray} {p : α → Bool} {l : List α} {k : Nat} (h : okUp nm p l k) (hk : k < l.length) (h1 : ∀ j (_ : j < l.length), j < k → nm l[j] ≠ nm l[k]) (h2 : p l[k] = true) : okUp nm p l (k + 1) := by
  refine ⟨fun i hi h' => ?_, fun i j hi hj hji h' => ?_⟩
  · rcases Nat.lt_or_ge i k with h'' | h''
    · exact h.1 i hi h''
    · obtain rfl : i = k := by omega
      exact h2
  · rcases Nat.lt_or_ge i k with h'' | h''
    · exact h.2 i j hi hj hji h''
    · obtain rfl : i = k := by omega
      exact h1 j hj hji
def okAll {α : Type} (nm : α → ByteArray) (p : α → Bool) (l : List α) : Bool := decide ((l.map nm).Nodup) && l.all p
theorem okUp_all {α : Type} {nm : α → ByteArray} {p : α → Bool} {l : List α} (h : okUp nm p l l.length) : okAll nm p l = true := by
  unfold okAll
  rw [Bool.and_eq_true, decide_eq_true_iff, List.all_eq_true]
  refine ⟨?_, fun x hx => ?_⟩
  · rw [List.nodup_iff_pairwise_ne, List.pairwise_iff_getElem]
    intro i j hi hj hij
    rw [List.length_map] at hi hj
    rw [List.getElem_map, List.getElem_map]
    exact h.2 j i hj hi hij hj
  · obtain ⟨i, hi, rfl⟩ := List.mem_iff_getElem.1 hx
    exact h.1 i hi hi
theorem okAll_bad {α : Type} {nm : α → ByteArray} {p : α → Bool} {l : List α} {k : Nat} (hk : k < l.length) (h : p l[k] = false) : okAll nm p l = false := by
  unfold okAll
  rw [Bool.and_eq_false_iff]
  right
  rw [List.all_eq_false]
  exact ⟨_, List.getElem_mem hk, by rw [h]; decide⟩
theorem okAll_twice {α : Type} {nm : α → ByteArray} {p : α → Bool} {l : List α} {j k : Nat} (hj : j < l.length) (hk : k < l.length) (hjk : j < k) (h : nm l[j] = nm l[k]) : okAll nm p l = false := by
  unfold okAll
  rw [Bool.and_eq_false_iff]
  left
  rw [decide_eq_false_iff_not]
  intro hn
  rw [List.nodup_iff_pairwise_ne, List.pairwise_iff_getElem] at hn
  exact hn j k (by rw [List.length_map]; exact hj) (by rw [List.length_map]; exact hk) hjk (by rw [List.getElem_map, List.getElem_map]; exact h)
theorem namedP_eq (l : List Nmd) : namedP l = okAll (·.1) (fun x => nameL (B x.1) && rightL x.2.1) l := rfl
theorem byP_eq (l : List ByteArray) : byP l = (okAll id (fun x => nameL (B x)) l && decide (l.length ≤ 8)) := by unfold byP okAll; rw [List.map_id]
set_option maxHeartbeats 1600000 in
set_option maxRecDepth 100000 in
theorem named8_any (l : List Nmd) (v : Value) (w : World) (hv : NmdsAt w v l) (hw : NmdWide l) :
    Calls Try.prog 40 #[v] w fun e w' => e = .returned (.bool (namedP l)) ∧ Below w.heap.size w w' := by
  obtain ⟨hl, _, hsz⟩ := hw
  rw [namedP_eq]
  obtain ⟨a, c, rfl, hc, hr⟩ := RdAt.shape hv
  have HR := Lib.hid hr
  have HSZ := Lib.hid hsz
  have hl63 : l.length ≤ 9223372036854775807 := by unfold maxLen at hl; omega
  clear hr hv hl hsz
  go_enter Try.func40, Try.ntmps40
  go_wp2
  go_loopw [3] (fun i wr => ∃ k : Nat, i = .int .i64 k ∧ k ≤ l.length ∧ Hid (okUp (·.1) (fun x => nameL (B x.1) && rightL x.2.1) l k) ∧ Below w.heap.size w wr) (fun i _ => l.length - (intOf i).toNat)
  case atStart => exact ⟨0, rfl, Nat.zero_le _, Lib.hid okUp_zero, Below.refl _ _⟩
  case round =>
    obtain ⟨k, rfl, hk, HT, hbr⟩ := hrel
    by_cases hkl : k < l.length
    · obtain ⟨b, o, rfl, hb, hcell⟩ := HR.out (by omega)
      have HCELL := Lib.hid hcell
      have hstep := okUp_succ HT.out hkl
      have hbad := okAll_bad (nm := fun x : Nmd => x.1) (p := fun x : Nmd => nameL (B x.1) && rightL x.2.1) hkl
      have htw := fun j hj hjk => okAll_twice (nm := fun x : Nmd => x.1) (p := fun x : Nmd => nameL (B x.1) && rightL x.2.1) (j := j) hj hkl hjk
      have hxs := HSZ.out _ (List.getElem_mem hkl)
      have HC := nmdCells_at l k hkl
      obtain ⟨x, hx⟩ : ∃ x, l[k] = x := ⟨_, rfl⟩
      rw [hx] at HC hstep hbad hxs
      simp only [hx] at htw
      have HQ : Hid (∀ W, Below w.heap.size w W → W.cell? ⟨b, o + k * 3, none⟩ = some (.string x.1) ∧ W.cell? ⟨b, o + k * 3 + 1, none⟩ = some (.int .i64 x.2.1) ∧ W.cell? ⟨b, o + k * 3 + 2, none⟩ = some (.int .u32 x.2.2)) := Lib.hid (fun W hW =>
        have q : ∀ i v, (nmdC x)[i]? = some v → W.cell? ⟨b, o + k * 3 + i, none⟩ = some v := fun i v hi => keep_cell (by have := hcell _ _ (HC i v hi); rwa [← Nat.add_assoc] at this) hW hb
        ⟨q 0 _ rfl, q 1 _ rfl, q 2 _ rfl⟩)
      have HST := Lib.hid hstep
      have HBAD := Lib.hid hbad
      have HTW := Lib.hid htw
      have HBR := Lib.hid hbr
      have HXS := Lib.hid hxs
      clear hcell HC hstep hbad htw hx hbr hxs HT
      go_wp2
      obtain ⟨wo, rfl⟩ : ∃ z, z = wr := ⟨_, rfl⟩
      go_loopw [4] (fun i wi => ∃ m : Nat, i = .int .i64 m ∧ m ≤ k ∧ Hid (∀ j (_ : j < l.length), j < m → l[j].1 ≠ x.1) ∧ Below wo.heap.size wo wi) (fun i _ => k - (intOf i).toNat)
      case atStart => exact ⟨0, rfl, Nat.zero_le _, Lib.hid (fun _ _ h => absurd h (Nat.not_lt_zero _)), Below.refl _ _⟩
      case round =>
        obtain ⟨m, rfl, hm, HN, hbi⟩ := hrel
        have hbw := HBR.out.trans (hbi.mono HBR.out.size)
        by_cases hmk : m < k
        · have hml : m < l.length := by omega
          have c0 := (HQ.out _ hbw).1
          have HCM := nmdCells_at l m hml
          obtain ⟨y, hy⟩ : ∃ y, l[m] = y := ⟨_, rfl⟩
          rw [hy] at HCM
          have d0 : wr.cell? ⟨b, o + m * 3, none⟩ = some (.string y.1) := keep_cell (HCELL.out _ _ (HCM 0 _ rfl)) hbw hb
          have HY := Lib.hid hy
          clear HCM hy
          by_cases hxy : y.1 = x.1
          · have hbq : (y.1.toList == x.1.toList) = true := bytes_eq_iff.2 hxy
            have HF : Hid (okAll (fun x : Nmd => x.1) (fun x => nameL (B x.1) && rightL x.2.1) l = false) := Lib.hid (HTW.out m hml hmk (by rw [HY.out]; exact hxy))
            clear hxy
            go_wp2
            go_quiet (fail)
            have hb2 : Below w.heap.size w (wr.drewN nq) := bl_drewN hbw nq
            generalize wr.drewN nq = wq at *
            go_wp2
            go_ret
            exact ⟨by rw [HF.out]; rfl, hb2⟩
          · have hbq : (y.1.toList == x.1.toList) = false := by rw [bytes_beq]; exact decide_eq_false hxy
            have HN' : Hid (∀ j (_ : j < l.length), j < m + 1 → l[j].1 ≠ x.1) := Lib.hid (fun j hj h => by
              rcases Nat.lt_or_ge j m with h' | h'
              · exact HN.out j hj h'
              · obtain rfl : j = m := by omega
                rw [HY.out]; exact hxy)
            clear hxy
            go_wp2
            go_quiet (fail)
            have hb2 : Below wo.heap.size wo (wr.drewN nq) := bl_drewN hbi nq
            generalize wr.drewN nq = wq at *
            go_wp2
            go_roundw
            case rel => exact ⟨m + 1, by go_num, by omega, HN', hb2⟩
            case measure => (simp [intOf]; try omega)
        · obtain rfl : m = k := by omega
          have kn : ∀ W, Calls Try.prog 35 #[.string x.1] W fun e w' => e = .returned (.bool (nameL (B x.1))) ∧ w' = W := fun W => (refName.name_any x.1 W HXS.out).mono (by rintro e w' ⟨h1, h2⟩; exact ⟨h1, h2.symm⟩)
          have kr := rright_any x.2.1 x.2.2
          obtain ⟨c0, c1, c2⟩ := HQ.out _ hbw
          have HBW := Lib.hid hbw
          clear hbw hbi
          cases hnm : nameL (B x.1)
          · rw [hnm] at kn
            have HF : Hid (okAll (fun x : Nmd => x.1) (fun x => nameL (B x.1) && rightL x.2.1) l = false) := Lib.hid (HBAD.out (by rw [hnm]; rfl))
            clear hnm
            go_wp2_with fail
            refine (kn _).mono ?_
            rintro e w2 ⟨rfl, rfl⟩
            go_wp2
            go_ret
            exact ⟨by rw [HF.out]; rfl, HBW.out⟩
          · rw [hnm] at kn
            cases hrl : rightL x.2.1
            · rw [hrl] at kr
              have HF : Hid (okAll (fun x : Nmd => x.1) (fun x => nameL (B x.1) && rightL x.2.1) l = false) := Lib.hid (HBAD.out (by rw [hnm, hrl]; rfl))
              clear hnm hrl
              go_wp2_with fail
              refine (kn _).mono ?_
              rintro e w2 ⟨rfl, rfl⟩
              go_wp2_with fail
              refine (kr _).mono ?_
              rintro e w3 ⟨rfl, hb3⟩
              have HB3 := Lib.hid (HBW.out.trans (hb3.mono HBW.out.size))
              clear hb3 c0 c1 c2
              go_wp2
              go_ret
              exact ⟨by rw [HF.out]; rfl, HB3.out⟩
            · rw [hrl] at kr
              have HN' := Lib.hid (HST.out (fun j hj h => HN.out j hj h) (by rw [hnm, hrl]; rfl))
              clear hnm hrl
              go_wp2_with fail
              refine (kn _).mono ?_
              rintro e w2 ⟨rfl, rfl⟩
              go_wp2_with fail
              refine (kr _).mono ?_
              rintro e w3 ⟨rfl, hb3⟩
              have HB3 := Lib.hid (HBW.out.trans (hb3.mono HBW.out.size))
              clear hb3 c0 c1 c2
              go_wp2
              go_roundw
              case rel => exact ⟨m + 1, by go_num, by omega, HN', HB3.out⟩
              case measure => (simp [intOf]; try omega)
    · obtain rfl : k = l.length := by omega
      have HF : Hid (okAll (fun x : Nmd => x.1) (fun x => nameL (B x.1) && rightL x.2.1) l = true) := Lib.hid (okUp_all HT.out)
      clear HT
      go_wp2
      go_ret
      exact ⟨by rw [HF.out]; rfl, hbr⟩
end Go.Proofs.Ytipnhpfpppblhaa

/- What a pattern says: a tree, and the texts of a tree; the builder's states say the same. No program in sight. -/
namespace Go.Proofs.Ytipnhpfpppblhaa
inductive Re where
  | no
  | eps
  | set (S : Nat → Bool)
  | cat (a b : Re)
  | alt (a b : Re)
  | star (a : Re)
  | plus (a : Re)
  | opt (a : Re)
inductive Lr : Re → List Nat → Prop
  | eps : Lr .eps []
  | set {S : Nat → Bool} {c : Nat} : S c = true → Lr (.set S) [c]
  | cat {a b : Re} {x y : List Nat} : Lr a x → Lr b y → Lr (.cat a b) (x ++ y)
  | altl {a b : Re} {x : List Nat} : Lr a x → Lr (.alt a b) x
  | altr {a b : Re} {x : List Nat} : Lr b x → Lr (.alt a b) x
  | star0 {a : Re} : Lr (.star a) []
  | star1 {a : Re} {x y : List Nat} : Lr a x → Lr (.star a) y → Lr (.star a) (x ++ y)
  | plus {a : Re} {x y : List Nat} : Lr a x → Lr (.star a) y → Lr (.plus a) (x ++ y)
  | opt0 {a : Re} : Lr (.opt a) []
  | opt1 {a : Re} {x : List Nat} : Lr a x → Lr (.opt a) x
inductive Pa (sts : List St) : Nat → List Nat → Nat → Nat → Prop
  | refl (k : Nat) : Pa sts k [] k 0
  | free {j f k n : Nat} {cs : List Nat} {x : St} : sts[j]? = some x → f ∈ x.free → Pa sts f cs k n → Pa sts j cs k (n + 1)
  | byte {j k c n : Nat} {cs : List Nat} {x : St} : sts[j]? = some x → goB x c = true → Pa sts x.next cs k n → Pa sts j (c :: cs) k (n + 1)
theorem Pa.trans {sts : List St} {j k l n m : Nat} {x y : List Nat} (h : Pa sts j x k n) (h' : Pa sts k y l m) : Pa sts j (x ++ y) l (n + m) := by
  induction h with
  | refl => simpa using h'
  | free h1 h2 _ ih => rw [Nat.add_right_comm]; exact Pa.free h1 h2 (ih h')
  | byte h1 h2 _ ih => rw [Nat.add_right_comm]; exact Pa.byte h1 h2 (ih h')
theorem Pa.inv {sts : List St} {j g n : Nat} {cs : List Nat} (h : Pa sts j cs g n) : (cs = [] ∧ j = g) ∨ (∃ x f m, sts[j]? = some x ∧ f ∈ x.free ∧ Pa sts f cs g m) ∨ ∃ x c cs' m, cs = c :: cs' ∧ sts[j]? = some x ∧ goB x c = true ∧ Pa sts x.next cs' g m := by
  cases h with
  | refl => exact .inl ⟨rfl, rfl⟩
  | free h1 h2 h3 => exact .inr (.inl ⟨_, _, _, h1, h2, h3⟩)
  | byte h1 h2 h3 => exact .inr (.inr ⟨_, _, _, _, rfl, h1, h2, h3⟩)
def Shut (sts : List St) (R : Nat → Prop) : Prop := ∀ k, R k → ∀ x, sts[k]? = some x → (∀ g ∈ x.free, R g) ∧ (x.set.isSome = true → R x.next)
theorem goB_some {x : St} {c : Nat} (h : goB x c = true) : x.set.isSome = true := by
  unfold goB at h
  split at h
  · rename_i f hf; rw [hf]; rfl
  · cases h
theorem Pa.same {sts sts' : List St} {R : Nat → Prop} (hs : Shut sts R) (he : ∀ k, R k → sts'[k]? = sts[k]?) {j g n : Nat} {cs : List Nat} (h : Pa sts' j cs g n) (hj : R j) : Pa sts j cs g n := by
  induction h with
  | refl => exact .refl _
  | free h1 h2 _ ih => rw [he _ hj] at h1; exact .free h1 h2 (ih ((hs _ hj _ h1).1 _ h2))
  | byte h1 h2 _ ih => rw [he _ hj] at h1; exact .byte h1 h2 (ih ((hs _ hj _ h1).2 (goB_some h2)))
theorem Pa.more {sts sts' : List St} {R : Nat → Prop} (hs : Shut sts R) (he : ∀ k, R k → ∀ x, sts[k]? = some x → ∃ x', sts'[k]? = some x' ∧ (∀ g ∈ x.free, g ∈ x'.free) ∧ x'.set = x.set ∧ x'.next = x.next) {j g n : Nat} {cs : List Nat} (h : Pa sts j cs g n) (hj : R j) : Pa sts' j cs g n := by
  induction h with
  | refl => exact .refl _
  | free h1 h2 _ ih =>
    obtain ⟨x', e1, e2, _, _⟩ := he _ hj _ h1
    exact .free e1 (e2 _ h2) (ih ((hs _ hj _ h1).1 _ h2))
  | byte h1 h2 _ ih =>
    obtain ⟨x', e1, _, e3, e4⟩ := he _ hj _ h1
    refine .byte e1 (by unfold goB at h2 ⊢; rw [e3]; exact h2) ?_
    rw [e4]
    exact ih ((hs _ hj _ h1).2 (goB_some h2))
theorem Pa.exit {sts sts' : List St} {R : Nat → Prop} {t g : Nat} (hs : Shut sts R) (he : ∀ k, R k → k ≠ t → sts'[k]? = sts[k]?) (hg : R g → g = t) {j n : Nat} {cs : List Nat} (h : Pa sts' j cs g n) (hj : R j) :
    ∃ x y n1 n2, cs = x ++ y ∧ Pa sts j x t n1 ∧ Pa sts' t y g n2 ∧ n2 ≤ n := by
  induction h with
  | refl => 
    have := hg hj
    subst this
    exact ⟨[], [], 0, 0, rfl, .refl _, .refl _, Nat.le_refl _⟩
  | free h1 h2 h3 ih =>
    rename_i j f k n cs x
    by_cases hjt : j = t
    · subst hjt
      exact ⟨[], cs, 0, n + 1, rfl, .refl _, .free h1 h2 h3, Nat.le_refl _⟩
    · rw [he _ hj hjt] at h1
      obtain ⟨x1, y1, n1, n2, e1, e2, e3, e4⟩ := ih hg ((hs _ hj _ h1).1 _ h2)
      exact ⟨x1, y1, n1 + 1, n2, e1, .free h1 h2 e2, e3, by omega⟩
  | byte h1 h2 h3 ih =>
    rename_i j k c n cs x
    by_cases hjt : j = t
    · subst hjt
      exact ⟨[], c :: cs, 0, n + 1, rfl, .refl _, .byte h1 h2 h3, Nat.le_refl _⟩
    · rw [he _ hj hjt] at h1
      obtain ⟨x1, y1, n1, n2, e1, e2, e3, e4⟩ := ih hg ((hs _ hj _ h1).2 (goB_some h2))
      exact ⟨c :: x1, y1, n1 + 1, n2, by rw [e1]; rfl, .byte h1 h2 e2, e3, by omega⟩
theorem Pa.first {sts : List St} {t g n nx : Nat} {l cs : List Nat} (h : Pa sts t cs g n) (ht : sts[t]? = some ⟨none, nx, l⟩) : (cs = [] ∧ t = g) ∨ ∃ f ∈ l, ∃ m, m < n ∧ Pa sts f cs g m := by
  cases h with
  | refl => exact .inl ⟨rfl, rfl⟩
  | free h1 h2 h3 =>
    rw [ht] at h1
    obtain rfl := Option.some.inj h1
    exact .inr ⟨_, h2, _, Nat.lt_succ_self _, h3⟩
  | byte h1 h2 h3 =>
    rw [ht] at h1
    obtain rfl := Option.some.inj h1
    cases goB_some h2
theorem addF_look (l : List St) (f t j : Nat) : (addF l f t)[j]? = if j = f then (l[j]?).map (fun x => { x with free := x.free ++ [t] }) else l[j]? := by
  induction l generalizing f j with
  | nil => simp [addF]
  | cons x l ih =>
    cases f with
    | zero => cases j <;> simp [addF]
    | succ f => cases j with
      | zero => simp [addF]
      | succ j => simp only [addF, List.getElem?_cons_succ, ih]; simp
theorem addF_ne {l : List St} {f t j : Nat} (h : j ≠ f) : (addF l f t)[j]? = l[j]? := by rw [addF_look, if_neg h]
theorem addF_eq {l : List St} {f t : Nat} {x : St} (h : l[f]? = some x) : (addF l f t)[f]? = some { x with free := x.free ++ [t] } := by rw [addF_look, if_pos rfl, h]; rfl
structure Frg (sts : List St) (lo hi f t : Nat) (a : Re) : Prop where
  f0 : lo ≤ f
  f1 : f < hi
  t0 : lo ≤ t
  t1 : t < hi
  hl : hi ≤ sts.length
  shut : Shut sts (fun k => lo ≤ k ∧ k < hi)
  sink : sts[t]? = some ⟨none, 0, []⟩
  noin : ∀ k, lo ≤ k → k < hi → ∀ x, sts[k]? = some x → (∀ g ∈ x.free, g ≠ f) ∧ (x.set.isSome = true → x.next ≠ f)
  lang : ∀ cs, (∃ n, Pa sts f cs t n) ↔ Lr a cs
def nd : St := ⟨none, 0, []⟩
theorem Pa.sink {sts : List St} {t g n : Nat} {cs : List Nat} (h : Pa sts t cs g n) (ht : sts[t]? = some ⟨none, 0, []⟩) : cs = [] ∧ t = g := by
  rcases h.first ht with h1 | ⟨f, hf, _⟩
  · exact h1
  · cases hf
theorem Frg.cat {sts0 sts1 : List St} {lo f t hi xf xt : Nat} {a b : Re} (h : Frg sts0 lo sts0.length f t a) (he : ∀ k, k < sts0.length → sts1[k]? = sts0[k]?) (hx : Frg sts1 sts0.length hi xf xt b) :
    Frg (addF sts1 t xf) lo hi f xt (.cat a b) := by
  have ht1 := h.t1
  have hf1 := h.f1
  have hf0 := h.f0
  have xf0 := hx.f0
  have xf1 := hx.f1
  have xt0 := hx.t0
  have gt : (addF sts1 t xf)[t]? = some ⟨none, 0, [xf]⟩ := by rw [addF_eq ((he t ht1).trans h.sink)]; rfl
  have go : ∀ k, k < sts0.length → k ≠ t → (addF sts1 t xf)[k]? = sts0[k]? := fun k hk hne => (addF_ne hne).trans (he k hk)
  have gx : ∀ k, sts0.length ≤ k → (addF sts1 t xf)[k]? = sts1[k]? := fun k hk => addF_ne (by omega)
  refine ⟨hf0, by omega, by have := h.f0; omega, hx.t1, by rw [addF_len]; exact hx.hl, ?_, by rw [gx _ xt0]; exact hx.sink, ?_, ?_⟩
  · rintro k ⟨h1, h2⟩ x hxk
    by_cases hk : k < sts0.length
    · by_cases hkt : k = t
      · subst hkt
        rw [gt] at hxk
        obtain rfl := Option.some.inj hxk
        refine ⟨fun g hg => ?_, (fun h => by cases h)⟩
        rw [List.mem_singleton.1 hg]
        exact ⟨by omega, by omega⟩
      · rw [go k hk hkt] at hxk
        obtain ⟨q1, q2⟩ := h.shut k ⟨h1, hk⟩ x hxk
        exact ⟨fun g hg => ⟨(q1 g hg).1, by have := (q1 g hg).2; omega⟩, fun hs => ⟨(q2 hs).1, by have := (q2 hs).2; omega⟩⟩
    · rw [gx k (by omega)] at hxk
      obtain ⟨q1, q2⟩ := hx.shut k ⟨by omega, h2⟩ x hxk
      exact ⟨fun g hg => ⟨by have := (q1 g hg).1; omega, (q1 g hg).2⟩, fun hs => ⟨by have := (q2 hs).1; omega, (q2 hs).2⟩⟩
  · intro k h1 h2 x hxk
    by_cases hk : k < sts0.length
    · by_cases hkt : k = t
      · subst hkt
        rw [gt] at hxk
        obtain rfl := Option.some.inj hxk
        refine ⟨fun g hg => ?_, (fun h => by cases h)⟩
        rw [List.mem_singleton.1 hg]
        omega
      · rw [go k hk hkt] at hxk
        exact h.noin k h1 hk x hxk
    · rw [gx k (by omega)] at hxk
      obtain ⟨q1, q2⟩ := hx.shut k ⟨by omega, h2⟩ x hxk
      exact ⟨fun g hg => by have := (q1 g hg).1; omega, fun hs => by have := (q2 hs).1; omega⟩
  · intro cs
    constructor
    · rintro ⟨n, hp⟩
      obtain ⟨x, y, n1, n2, rfl, p1, p2, _⟩ := hp.exit h.shut (fun k hk hne => go k hk.2 hne) (fun hg => absurd hg.2 (by omega)) ⟨hf0, hf1⟩
      rcases p2.first gt with ⟨_, e⟩ | ⟨g, hg, m, _, p3⟩
      · omega
      · rw [List.mem_singleton.1 hg] at p3
        exact .cat ((h.lang x).1 ⟨_, p1⟩) ((hx.lang y).1 ⟨_, p3.same hx.shut (fun k hk => gx k hk.1) ⟨xf0, xf1⟩⟩)
    · intro hl
      cases hl with
      | cat l1 l2 =>
        obtain ⟨n1, p1⟩ := (h.lang _).2 l1
        obtain ⟨n2, p2⟩ := (hx.lang _).2 l2
        have q1 := p1.more (sts' := addF sts1 t xf) h.shut (fun k hk x hxk => by
          by_cases hkt : k = t
          · subst hkt
            rw [h.sink] at hxk
            obtain rfl := Option.some.inj hxk
            exact ⟨_, gt, (fun _ h => by cases h), rfl, rfl⟩
          · exact ⟨x, (go k hk.2 hkt).trans hxk, fun _ h => h, rfl, rfl⟩) ⟨hf0, hf1⟩
        have q2 := p2.same (sts := addF sts1 t xf) (sts' := sts1) (R := fun k => sts0.length ≤ k ∧ k < hi) (fun k hk x hxk => hx.shut k hk x ((gx k hk.1).symm.trans hxk)) (fun k hk => (gx k hk.1).symm) ⟨xf0, xf1⟩
        exact ⟨_, q1.trans (.free gt (List.mem_singleton.2 rfl) q2)⟩
theorem Frg.alt {sts0 sts1 : List St} {lo f t hi xf xt : Nat} {a b : Re} (h : Frg sts0 lo sts0.length f t a) (hft : f ≠ t) (he : ∀ k, k < sts0.length → sts1[k]? = sts0[k]?) (hx : Frg sts1 sts0.length hi xf xt b) :
    Frg (addF (addF sts1 f xf) xt t) lo hi f t (.alt a b) := by
  have ht1 := h.t1
  have hf1 := h.f1
  have hf0 := h.f0
  have ht0 := h.t0
  have xf0 := hx.f0
  have xf1 := hx.f1
  have xt0 := hx.t0
  have xt1 := hx.t1
  obtain ⟨z, hz⟩ : ∃ z, sts0[f]? = some z := ⟨_, List.getElem?_eq_getElem hf1⟩
  obtain ⟨zs, zn, zf⟩ := z
  have gf : (addF (addF sts1 f xf) xt t)[f]? = some ⟨zs, zn, zf ++ [xf]⟩ := by rw [addF_ne (by omega), addF_eq ((he f hf1).trans hz)]
  have gxt : (addF (addF sts1 f xf) xt t)[xt]? = some ⟨none, 0, [t]⟩ := by
    rw [addF_eq (x := ⟨none, 0, []⟩) (by rw [addF_ne (by omega)]; exact hx.sink)]; rfl
  have go : ∀ k, k < sts0.length → k ≠ f → (addF (addF sts1 f xf) xt t)[k]? = sts0[k]? := fun k hk hne => by rw [addF_ne (by omega), addF_ne hne, he k hk]
  have gx : ∀ k, sts0.length ≤ k → k ≠ xt → (addF (addF sts1 f xf) xt t)[k]? = sts1[k]? := fun k hk hne => by rw [addF_ne hne, addF_ne (by omega)]
  have gt : (addF (addF sts1 f xf) xt t)[t]? = some ⟨none, 0, []⟩ := (go t ht1 (Ne.symm hft)).trans h.sink
  obtain ⟨sf1, sf2⟩ := h.shut f ⟨hf0, hf1⟩ _ hz
  obtain ⟨nf1, nf2⟩ := h.noin f hf0 hf1 _ hz
  refine ⟨hf0, by omega, ht0, by omega, by rw [addF_len, addF_len]; exact hx.hl, ?_, gt, ?_, ?_⟩
  · rintro k ⟨h1, h2⟩ x hxk
    by_cases hk : k < sts0.length
    · by_cases hkf : k = f
      · subst hkf
        rw [gf] at hxk
        obtain rfl := Option.some.inj hxk
        refine ⟨fun g hg => ?_, fun hs => ⟨(sf2 hs).1, by have := (sf2 hs).2; dsimp only at this ⊢; omega⟩⟩
        rcases List.mem_append.1 hg with hg | hg
        · exact ⟨(sf1 g hg).1, by have := (sf1 g hg).2; omega⟩
        · rw [List.mem_singleton.1 hg]
          exact ⟨by omega, by omega⟩
      · rw [go k hk hkf] at hxk
        obtain ⟨q1, q2⟩ := h.shut k ⟨h1, hk⟩ x hxk
        exact ⟨fun g hg => ⟨(q1 g hg).1, by have := (q1 g hg).2; omega⟩, fun hs => ⟨(q2 hs).1, by have := (q2 hs).2; omega⟩⟩
    · by_cases hkx : k = xt
      · subst hkx
        rw [gxt] at hxk
        obtain rfl := Option.some.inj hxk
        refine ⟨fun g hg => ?_, (fun h => by cases h)⟩
        rw [List.mem_singleton.1 hg]
        exact ⟨ht0, by omega⟩
      · rw [gx k (by omega) hkx] at hxk
        obtain ⟨q1, q2⟩ := hx.shut k ⟨by omega, h2⟩ x hxk
        exact ⟨fun g hg => ⟨by have := (q1 g hg).1; omega, (q1 g hg).2⟩, fun hs => ⟨by have := (q2 hs).1; omega, (q2 hs).2⟩⟩
  · intro k h1 h2 x hxk
    by_cases hk : k < sts0.length
    · by_cases hkf : k = f
      · subst hkf
        rw [gf] at hxk
        obtain rfl := Option.some.inj hxk
        refine ⟨fun g hg => ?_, nf2⟩
        rcases List.mem_append.1 hg with hg | hg
        · exact nf1 g hg
        · rw [List.mem_singleton.1 hg]; omega
      · rw [go k hk hkf] at hxk
        exact h.noin k h1 hk x hxk
    · by_cases hkx : k = xt
      · subst hkx
        rw [gxt] at hxk
        obtain rfl := Option.some.inj hxk
        refine ⟨fun g hg => ?_, (fun h => by cases h)⟩
        rw [List.mem_singleton.1 hg]
        exact Ne.symm hft
      · rw [gx k (by omega) hkx] at hxk
        obtain ⟨q1, q2⟩ := hx.shut k ⟨by omega, h2⟩ x hxk
        exact ⟨fun g hg => by have := (q1 g hg).1; omega, fun hs => by have := (q2 hs).1; omega⟩
  · intro cs
    have shutF : Shut sts0 (fun k => (lo ≤ k ∧ k < sts0.length) ∧ k ≠ f) := fun k hk x hxk => by
      obtain ⟨q1, q2⟩ := h.shut k hk.1 x hxk
      obtain ⟨q3, q4⟩ := h.noin k hk.1.1 hk.1.2 x hxk
      exact ⟨fun g hg => ⟨q1 g hg, q3 g hg⟩, fun hs => ⟨q2 hs, q4 hs⟩⟩
    constructor
    · rintro ⟨n, hp⟩
      cases hp with
      | refl => exact absurd rfl hft
      | free h1 h2 h3 =>
        rw [gf] at h1
        obtain rfl := Option.some.inj h1
        rcases List.mem_append.1 h2 with hg | hg
        · exact .altl ((h.lang cs).1 ⟨_, .free hz hg (h3.same shutF (fun k hk => go k hk.1.2 hk.2) ⟨sf1 _ hg, nf1 _ hg⟩)⟩)
        · rw [List.mem_singleton.1 hg] at h3
          obtain ⟨x, y, n1, n2, rfl, p1, p2, _⟩ := h3.exit hx.shut (fun k hk hne => gx k hk.1 hne) (fun hg => absurd hg.1 (by omega)) ⟨xf0, xf1⟩
          rcases p2.first gxt with ⟨_, e⟩ | ⟨g, hg, m, _, p3⟩
          · omega
          · rw [List.mem_singleton.1 hg] at p3
            rw [(p3.sink gt).1, List.append_nil]
            exact .altr ((hx.lang x).1 ⟨_, p1⟩)
      | byte h1 h2 h3 =>
        rw [gf] at h1
        obtain rfl := Option.some.inj h1
        have hs := goB_some h2
        exact .altl ((h.lang _).1 ⟨_, .byte hz h2 (h3.same shutF (fun k hk => go k hk.1.2 hk.2) ⟨sf2 hs, nf2 hs⟩)⟩)
    · intro hl
      cases hl with
      | altl l1 =>
        obtain ⟨n1, p1⟩ := (h.lang _).2 l1
        exact ⟨_, p1.more (sts' := addF (addF sts1 f xf) xt t) h.shut (fun k hk x hxk => by
          by_cases hkt : k = f
          · subst hkt
            rw [hz] at hxk
            obtain rfl := Option.some.inj hxk
            exact ⟨_, gf, fun _ h => List.mem_append_left _ h, rfl, rfl⟩
          · exact ⟨x, (go k hk.2 hkt).trans hxk, fun _ h => h, rfl, rfl⟩) ⟨hf0, hf1⟩⟩
      | altr l2 =>
        obtain ⟨n2, p2⟩ := (hx.lang _).2 l2
        have q2 := p2.more (sts' := addF (addF sts1 f xf) xt t) hx.shut (fun k hk x hxk => by
          by_cases hkt : k = xt
          · subst hkt
            rw [hx.sink] at hxk
            obtain rfl := Option.some.inj hxk
            exact ⟨_, gxt, (fun _ h => by cases h), rfl, rfl⟩
          · exact ⟨x, (gx k hk.1 hkt).trans hxk, fun _ h => h, rfl, rfl⟩) ⟨xf0, xf1⟩
        have q3 := Pa.free gf (List.mem_append_right _ (List.mem_singleton.2 rfl)) (q2.trans (.free gxt (List.mem_singleton.2 rfl) (.refl t)))
        rw [List.append_nil] at q3
        exact ⟨_, q3⟩
def postR : Bool → Bool → Re → Re
  | true, true, a => .star a
  | false, true, a => .plus a
  | true, false, a => .opt a
  | false, false, a => a
theorem Frg.post {sts0 sts' : List St} {lo xf xt : Nat} {a : Re} (h : Frg sts0 lo sts0.length xf xt a) (skip again : Bool)
    (hlen : sts'.length = sts0.length + 2) (go : ∀ k, k < sts0.length → k ≠ xt → sts'[k]? = sts0[k]?)
    (gF : sts'[sts0.length]? = some ⟨none, 0, [xf] ++ (if skip = true then [sts0.length + 1] else [])⟩)
    (gx : sts'[xt]? = some ⟨none, 0, [sts0.length + 1] ++ (if again = true then [xf] else [])⟩)
    (gT : sts'[sts0.length + 1]? = some ⟨none, 0, []⟩) (r : Re)
    (hr : r = postR skip again a) :
    Frg sts' lo (sts0.length + 2) sts0.length (sts0.length + 1) r := by
  have f0 := h.f0
  have f1 := h.f1
  have t0 := h.t0
  have t1 := h.t1
  have one : ∀ {cs n}, Pa sts' xf cs (sts0.length + 1) n → ∃ x y, cs = x ++ y ∧ Lr a x ∧ (y = [] ∨ (again = true ∧ ∃ m, m < n ∧ Pa sts' xf y (sts0.length + 1) m)) := by
    intro cs n hp
    obtain ⟨x, y, n1, n2, rfl, p1, p2, hn⟩ := hp.exit h.shut (fun k hk hne => go k hk.2 hne) (fun hg => absurd hg.2 (by omega)) ⟨f0, f1⟩
    refine ⟨x, y, rfl, (h.lang x).1 ⟨_, p1⟩, ?_⟩
    rcases p2.first gx with ⟨_, e⟩ | ⟨g, hg, m, hm, p3⟩
    · omega
    · rcases List.mem_append.1 hg with hg | hg
      · rw [List.mem_singleton.1 hg] at p3
        exact .inl (p3.sink gT).1
      · split at hg
        · rename_i ha
          rw [List.mem_singleton.1 hg] at p3
          exact .inr ⟨ha, m, by omega, p3⟩
        · cases hg
  have many : ∀ n, ∀ cs, Pa sts' xf cs (sts0.length + 1) n → ∃ x y, cs = x ++ y ∧ Lr a x ∧ (again = false → y = []) ∧ Lr (.star a) y := by
    intro n
    induction n using Nat.strongRecOn with
    | ind n ih =>
      intro cs hp
      obtain ⟨x, y, e, l1, h1 | ⟨h1, m, hm, p3⟩⟩ := one hp
      · subst h1; exact ⟨x, [], e, l1, fun _ => rfl, .star0⟩
      · obtain ⟨x', y', e', l1', _, l3⟩ := ih m hm y p3
        exact ⟨x, y, e, l1, (fun h => by rw [h1] at h; cases h), by rw [e']; exact .star1 l1' l3⟩
  have up : ∀ {x n}, Pa sts0 xf x xt n → Pa sts' xf x xt n := fun p => p.more h.shut (fun k hk x hxk => by
    by_cases hkt : k = xt
    · subst hkt
      rw [h.sink] at hxk
      obtain rfl := Option.some.inj hxk
      exact ⟨_, gx, (fun _ h => by cases h), rfl, rfl⟩
    · exact ⟨x, (go k hk.2 hkt).trans hxk, fun _ h => h, rfl, rfl⟩) ⟨f0, f1⟩
  have out : ∀ {x}, Lr a x → ∃ n, Pa sts' xf x (sts0.length + 1) n := fun {x} l => by
    obtain ⟨n, p⟩ := (h.lang x).2 l
    have := (up p).trans (.free gx (List.mem_append_left _ (List.mem_singleton.2 rfl)) (.refl _))
    rw [List.append_nil] at this
    exact ⟨_, this⟩
  have loop : ∀ {x y n}, again = true → Lr a x → Pa sts' xf y (sts0.length + 1) n → ∃ n, Pa sts' xf (x ++ y) (sts0.length + 1) n := fun {x y n} ha l p2 => by
    obtain ⟨n, p⟩ := (h.lang x).2 l
    exact ⟨_, (up p).trans (.free gx (List.mem_append_right _ (by rw [ha]; exact List.mem_singleton.2 rfl)) p2)⟩
  have loops : again = true → ∀ {r y}, Lr r y → r = .star a → ∀ {x}, Lr a x → ∃ n, Pa sts' xf (x ++ y) (sts0.length + 1) n := fun ha r y l => by
    induction l with
    | star0 => intro _ x lx; rw [List.append_nil]; exact out lx
    | star1 l1 _ _ ih2 =>
      intro e x lx
      cases e
      obtain ⟨n, p⟩ := ih2 rfl l1
      exact loop ha lx p
    | _ => intro e; cases e
  refine ⟨by omega, by omega, by omega, by omega, by omega, ?_, gT, ?_, ?_⟩
  · rintro k ⟨h1, h2⟩ x hxk
    rcases (show (k < sts0.length ∧ k ≠ xt) ∨ k = xt ∨ k = sts0.length ∨ k = sts0.length + 1 by omega) with ⟨hk, hkt⟩ | rfl | rfl | rfl
    · rw [go k hk hkt] at hxk
      obtain ⟨q1, q2⟩ := h.shut k ⟨h1, hk⟩ x hxk
      exact ⟨fun g hg => ⟨(q1 g hg).1, by have := (q1 g hg).2; omega⟩, fun hs => ⟨(q2 hs).1, by have := (q2 hs).2; omega⟩⟩
    · rw [gx] at hxk
      obtain rfl := Option.some.inj hxk
      refine ⟨fun g hg => ?_, (fun h => by cases h)⟩
      rcases List.mem_append.1 hg with hg | hg
      · rw [List.mem_singleton.1 hg]; exact ⟨by omega, by omega⟩
      · split at hg
        · rw [List.mem_singleton.1 hg]; exact ⟨by omega, by omega⟩
        · cases hg
    · rw [gF] at hxk
      obtain rfl := Option.some.inj hxk
      refine ⟨fun g hg => ?_, (fun h => by cases h)⟩
      rcases List.mem_append.1 hg with hg | hg
      · rw [List.mem_singleton.1 hg]; exact ⟨by omega, by omega⟩
      · split at hg
        · rw [List.mem_singleton.1 hg]; exact ⟨by omega, by omega⟩
        · cases hg
    · rw [gT] at hxk
      obtain rfl := Option.some.inj hxk
      exact ⟨(fun _ h => by cases h), (fun h => by cases h)⟩
  · intro k h1 h2 x hxk
    rcases (show (k < sts0.length ∧ k ≠ xt) ∨ k = xt ∨ k = sts0.length ∨ k = sts0.length + 1 by omega) with ⟨hk, hkt⟩ | rfl | rfl | rfl
    · rw [go k hk hkt] at hxk
      obtain ⟨q1, q2⟩ := h.shut k ⟨h1, hk⟩ x hxk
      exact ⟨fun g hg => by have := (q1 g hg).2; omega, fun hs => by have := (q2 hs).2; omega⟩
    · rw [gx] at hxk
      obtain rfl := Option.some.inj hxk
      refine ⟨fun g hg => ?_, (fun h => by cases h)⟩
      rcases List.mem_append.1 hg with hg | hg
      · rw [List.mem_singleton.1 hg]; omega
      · split at hg
        · rw [List.mem_singleton.1 hg]; omega
        · cases hg
    · rw [gF] at hxk
      obtain rfl := Option.some.inj hxk
      refine ⟨fun g hg => ?_, (fun h => by cases h)⟩
      rcases List.mem_append.1 hg with hg | hg
      · rw [List.mem_singleton.1 hg]; omega
      · split at hg
        · rw [List.mem_singleton.1 hg]; omega
        · cases hg
    · rw [gT] at hxk
      obtain rfl := Option.some.inj hxk
      exact ⟨(fun _ h => by cases h), (fun h => by cases h)⟩
  · intro cs
    have hin : ∀ {n}, Pa sts' xf cs (sts0.length + 1) n → ∃ n, Pa sts' sts0.length cs (sts0.length + 1) n := fun p => ⟨_, .free gF (List.mem_append_left _ (List.mem_singleton.2 rfl)) p⟩
    constructor
    · rintro ⟨n, hp⟩
      rcases hp.first gF with ⟨_, e⟩ | ⟨g, hg, m, _, p3⟩
      · omega
      · rcases List.mem_append.1 hg with hg | hg
        · rw [List.mem_singleton.1 hg] at p3
          obtain ⟨x, y, rfl, l1, l2, l3⟩ := many _ _ p3
          subst hr
          cases skip <;> cases again
          · rw [l2 rfl, List.append_nil]; exact l1
          · exact .plus l1 l3
          · rw [l2 rfl, List.append_nil]; exact .opt1 l1
          · exact .star1 l1 l3
        · split at hg
          · rename_i hs
            rw [List.mem_singleton.1 hg] at p3
            rw [(p3.sink gT).1]
            subst hr
            rw [hs]
            cases again
            · exact .opt0
            · exact .star0
          · cases hg
    · intro hl
      subst hr
      have hskip : skip = true → ∃ n, Pa sts' sts0.length [] (sts0.length + 1) n := fun hs => ⟨_, .free gF (List.mem_append_right _ (by rw [hs]; exact List.mem_singleton.2 rfl)) (.refl _)⟩
      cases skip <;> cases again
      · obtain ⟨n, p⟩ := out hl; exact hin p
      · cases hl with
        | plus l1 l2 => obtain ⟨n, p⟩ := loops rfl l2 rfl l1; exact hin p
      · cases hl with
        | opt0 => exact hskip rfl
        | opt1 l => obtain ⟨n, p⟩ := out l; exact hin p
      · cases hl with
        | star0 => exact hskip rfl
        | star1 l1 l2 => obtain ⟨n, p⟩ := loops rfl l2 rfl l1; exact hin p
end Go.Proofs.Ytipnhpfpppblhaa

/- The reference's ends, plainly: of each tree the places at which a text of it may end. No program in sight. -/
namespace Go.Proofs.Ytipnhpfpppblhaa
def sl (B : List Nat) (i j : Nat) : List Nat := (B.drop i).take (j - i)
def En (B : List Nat) (a : Re) (X : Nat → Prop) (j : Nat) : Prop := j ≤ B.length ∧ ∃ i, i ≤ j ∧ X i ∧ Lr a (sl B i j)
theorem En.congr {B : List Nat} {a : Re} {X Y : Nat → Prop} {j : Nat} (h : ∀ i, i ≤ B.length → (X i ↔ Y i)) : En B a X j ↔ En B a Y j := by
  unfold En
  constructor
  · rintro ⟨h1, i, h2, h3, h4⟩
    exact ⟨h1, i, h2, (h i (by omega)).1 h3, h4⟩
  · rintro ⟨h1, i, h2, h3, h4⟩
    exact ⟨h1, i, h2, (h i (by omega)).2 h3, h4⟩
def Ei (B : List Nat) (a : Re) (X : Nat → Prop) : Nat → Nat → Prop
  | 0, j => j ≤ B.length ∧ X j
  | m + 1, j => En B a (Ei B a X m) j
theorem Ei_le {B : List Nat} {a : Re} {X : Nat → Prop} {m j : Nat} (h : Ei B a X m j) : j ≤ B.length := by
  cases m with
  | zero => exact h.1
  | succ m => exact h.1
theorem Ei_shut {B : List Nat} {a : Re} {X : Nat → Prop} {lo k : Nat} (hlo : lo ≤ k) (h : ∀ j, Ei B a X (k + 1) j → ∃ m, lo ≤ m ∧ m ≤ k ∧ Ei B a X m j) : ∀ m j, lo ≤ m → Ei B a X m j → ∃ m', lo ≤ m' ∧ m' ≤ k ∧ Ei B a X m' j := by
  intro m
  induction m with
  | zero => intro j h0 hj; exact ⟨0, h0, by omega, hj⟩
  | succ m ih =>
    intro j h0 hj
    by_cases hm : m + 1 ≤ k
    · exact ⟨m + 1, h0, hm, hj⟩
    · by_cases hlm : lo ≤ m
      · obtain ⟨h1, i, h2, h3, h4⟩ := hj
        obtain ⟨m', a1, a2, a3⟩ := ih i hlm h3
        by_cases e : m' = k
        · subst e
          exact h j ⟨h1, i, h2, a3, h4⟩
        · exact ⟨m' + 1, by omega, by omega, h1, i, h2, a3, h4⟩
      · obtain rfl : m = k := by omega
        exact h j hj
end Go.Proofs.Ytipnhpfpppblhaa

/- The reference's tree in memory: a node has 258 cells. -/
namespace Go.Proofs.Ytipnhpfpppblhaa
open Go.RowKit
def boolC (S : Nat → Bool) : List Value := (List.range 256).map fun c => .bool (S c)
def nodeC (k : Int) (S : Nat → Bool) (kv : Value) : List Value := .int .i64 k :: (boolC S ++ [kv])
theorem boolC_len (S : Nat → Bool) : (boolC S).length = 256 := by unfold boolC; simp
theorem nodeC_len (k : Int) (S : Nat → Bool) (kv : Value) : (nodeC k S kv).length = 258 := by
  unfold nodeC; rw [List.length_cons, List.length_append, boolC_len]; rfl
theorem nodeC_set (k : Int) (S : Nat → Bool) (kv : Value) (c : Nat) (hc : c < 256) : (nodeC k S kv)[1 + c]? = some (.bool (S c)) := by
  unfold nodeC
  rw [Nat.add_comm, List.getElem?_cons_succ, List.getElem?_append_left (by rw [boolC_len]; exact hc)]
  unfold boolC
  rw [List.getElem?_map, List.getElem?_range hc]
  rfl
theorem nodeC_kids (k : Int) (S : Nat → Bool) (kv : Value) : (nodeC k S kv)[257]? = some kv := by
  unfold nodeC
  rw [show (257 : Nat) = 256 + 1 by rfl, List.getElem?_cons_succ, List.getElem?_append_right (by rw [boolC_len]; exact Nat.le_refl _), boolC_len]
  rfl
theorem nodeC_one (k : Int) (S : Nat → Bool) (kv : Value) (h : kv.oneCell' = true) : ∀ y ∈ nodeC k S kv, y.oneCell' = true := by
  intro y hy
  unfold nodeC boolC at hy
  rcases List.mem_cons.1 hy with rfl | hy
  · rfl
  · rcases List.mem_append.1 hy with hy | hy
    · obtain ⟨c, _, rfl⟩ := List.mem_map.1 hy
      rfl
    · rw [List.mem_singleton.1 hy]; exact h
structure KidsAt (w : World) (P : Nat → Prop) (kv : Value) (l : List (List Value)) : Prop where
  row : RdAt w kv l.length 258 l.flatten
  each : ∀ x ∈ l, x.length = 258
  own : ∀ q, kv.ownBlock = some q → P q
  few : l.length ≤ 1000000
inductive NA (w : World) (P : Nat → Prop) : Nat → List (List Value) → Re → Prop
  | set (S : Nat → Bool) (kv : Value) : NA w P 0 [nodeC 0 S kv] (.set S)
  | alts {l : List (List Value)} {a : Re} {S : Nat → Bool} {kv : Value} : NA w P 1 l a → KidsAt w P kv l → NA w P 0 [nodeC 1 S kv] a
  | row {l : List (List Value)} {a : Re} {S : Nat → Bool} {kv : Value} : NA w P 2 l a → KidsAt w P kv l → NA w P 0 [nodeC 2 S kv] a
  | star {x : List Value} {a : Re} {S : Nat → Bool} {kv : Value} : NA w P 0 [x] a → KidsAt w P kv [x] → NA w P 0 [nodeC 3 S kv] (.star a)
  | plus {x : List Value} {a : Re} {S : Nat → Bool} {kv : Value} : NA w P 0 [x] a → KidsAt w P kv [x] → NA w P 0 [nodeC 4 S kv] (.plus a)
  | opt {x : List Value} {a : Re} {S : Nat → Bool} {kv : Value} : NA w P 0 [x] a → KidsAt w P kv [x] → NA w P 0 [nodeC 5 S kv] (.opt a)
  | a0 : NA w P 1 [] .no
  | a1 {l : List (List Value)} {x : List Value} {a b : Re} : NA w P 1 l a → NA w P 0 [x] b → NA w P 1 (l ++ [x]) (.alt a b)
  | r0 : NA w P 2 [] .eps
  | r1 {l : List (List Value)} {x : List Value} {a b : Re} : NA w P 2 l a → NA w P 0 [x] b → NA w P 2 (l ++ [x]) (.cat a b)
theorem rd_keepB {w w' : World} {v : Value} {n k : Nat} {xs : List Value} (h : RdAt w v n k xs) (hs : w.heap.size ≤ w'.heap.size) (hk : ∀ q, v.ownBlock = some q → q < w.heap.size → w'.heap[q]? = w.heap[q]?) : RdAt w' v n k xs := by
  refine ⟨h.1, ?_⟩
  rcases h.2 with h1 | ⟨a, c, rfl, hc, hr⟩
  · exact .inl h1
  · refine .inr ⟨a, c, rfl, hc, fun hn => ?_⟩
    obtain ⟨b, o, rfl, hlt, hcell⟩ := hr hn
    exact ⟨b, o, rfl, Nat.lt_of_lt_of_le hlt hs, fun j x hx => (World.cell?_of_block (a := ⟨b, o + j, none⟩) (hk b rfl hlt)).trans (hcell j x hx)⟩
theorem KidsAt.keep {w w' : World} {P : Nat → Prop} {kv : Value} {l : List (List Value)} (h : KidsAt w P kv l) (hs : w.heap.size ≤ w'.heap.size) (hk : ∀ q, P q → q < w.heap.size → w'.heap[q]? = w.heap[q]?) : KidsAt w' P kv l :=
  ⟨rd_keepB h.row hs fun q hq hlt => hk q (h.own q hq) hlt, h.each, h.own, h.few⟩
theorem NA.keep {w w' : World} {P : Nat → Prop} {i : Nat} {l : List (List Value)} {a : Re} (h : NA w P i l a) (hs : w.heap.size ≤ w'.heap.size) (hk : ∀ q, P q → q < w.heap.size → w'.heap[q]? = w.heap[q]?) : NA w' P i l a := by
  induction h with
  | set S kv => exact .set S kv
  | alts _ h2 ih => exact .alts ih (h2.keep hs hk)
  | row _ h2 ih => exact .row ih (h2.keep hs hk)
  | star _ h2 ih => exact .star ih (h2.keep hs hk)
  | plus _ h2 ih => exact .plus ih (h2.keep hs hk)
  | opt _ h2 ih => exact .opt ih (h2.keep hs hk)
  | a0 => exact .a0
  | a1 _ _ ih1 ih2 => exact .a1 ih1 ih2
  | r0 => exact .r0
  | r1 _ _ ih1 ih2 => exact .r1 ih1 ih2
theorem KidsAt.mono {w : World} {P Q : Nat → Prop} {kv : Value} {l : List (List Value)} (h : KidsAt w P kv l) (hq : ∀ q, P q → Q q) : KidsAt w Q kv l := ⟨h.row, h.each, fun q hh => hq q (h.own q hh), h.few⟩
theorem NA.mono {w : World} {P Q : Nat → Prop} {i : Nat} {l : List (List Value)} {a : Re} (h : NA w P i l a) (hq : ∀ q, P q → Q q) : NA w Q i l a := by
  induction h with
  | set S kv => exact .set S kv
  | alts _ h2 ih => exact .alts ih (h2.mono hq)
  | row _ h2 ih => exact .row ih (h2.mono hq)
  | star _ h2 ih => exact .star ih (h2.mono hq)
  | plus _ h2 ih => exact .plus ih (h2.mono hq)
  | opt _ h2 ih => exact .opt ih (h2.mono hq)
  | a0 => exact .a0
  | a1 _ _ ih1 ih2 => exact .a1 ih1 ih2
  | r0 => exact .r0
  | r1 _ _ ih1 ih2 => exact .r1 ih1 ih2
theorem NA.later {w w' : World} {P : Nat → Prop} {i : Nat} {l : List (List Value)} {a : Re} (h : NA w P i l a) (hb : Below w.heap.size w w') : NA w' P i l a := h.keep hb.size fun q _ hq => hb.block q hq
theorem NA.len {w : World} {P : Nat → Prop} {x : List Value} {a : Re} (h : NA w P 0 [x] a) : ∃ k S kv, x = nodeC k S kv := by
  generalize hi : 0 = i at h
  generalize hl : [x] = l at h
  cases h <;> first | (cases hl; exact ⟨_, _, _, rfl⟩) | cases hi
end Go.Proofs.Ytipnhpfpppblhaa

/- The reference's reader: next, fail, sign: contracts. -/
namespace Go.Proofs.Ytipnhpfpppblhaa
open Go.RowKit
theorem rpeek_of {s : ByteArray} {b : Bs} (he : b.err = 0) (hp : b.pos < s.size) : peekM s b = some (byteM s b.pos) := by unfold peekM; rw [if_pos ⟨he, hp⟩]
theorem rbyte_at (s : ByteArray) (k : Nat) (h : k < s.size) : ((s[k]'h).toNat : Int) = (byteM s k : Int) := by unfold byteM; rw [dif_pos h]
theorem rsign_none {s : ByteArray} {b : Bs} (h : peekM s b = none) : signM s b = (failM (stepM b) 2, 0) := by unfold signM; rw [h]
theorem rsign_plain {s : ByteArray} {b : Bs} {c : Nat} (h : peekM s b = some c) (hc : c ≠ 92) : signM s b = (stepM b, c) := by unfold signM; rw [h]; simp [hc]
theorem rsign_end {s : ByteArray} {b : Bs} (h : peekM s b = some 92) (h' : peekM s (stepM b) = none) : signM s b = (failM (stepM (stepM b)) 2, 0) := by unfold signM; rw [h]; simp [h']
theorem rsign_esc {s : ByteArray} {b : Bs} {d : Nat} (h : peekM s b = some 92) (h' : peekM s (stepM b) = some d) : signM s b = (stepM (stepM b), d) := by unfold signM; rw [h]; simp [h']
structure RdrAt (w : World) (g : Nat) (s : ByteArray) (b : Bs) : Prop where
  c0 : w.cell? ⟨g, 0, none⟩ = some (.string s)
  c1 : w.cell? ⟨g, 1, none⟩ = some (.int .i64 b.pos)
  c2 : w.cell? ⟨g, 2, none⟩ = some (.int .i64 b.err)
  th : w.there g 0 3
  lt : g < w.heap.size
theorem RdrAt.below {w w' : World} {g : Nat} {s : ByteArray} {b : Bs} (h : RdrAt w g s b) (hb : Below w.heap.size w w') : RdrAt w' g s b :=
  ⟨keep_cell h.c0 hb h.lt, keep_cell h.c1 hb h.lt, keep_cell h.c2 hb h.lt, there_later h.th hb h.lt, Nat.lt_of_lt_of_le h.lt hb.size⟩
theorem rfar {w : World} {p i b j : Nat} {v : Value} (h : ¬(p = b ∧ i = j)) : (w.setCell ⟨p, i, none⟩ v).cell? ⟨b, j, none⟩ = w.cell? ⟨b, j, none⟩ := by
  apply World.cell?_setCell_other
  intro e
  simp only [Addr.mk.injEq] at e
  exact h ⟨e.1, e.2.1⟩
theorem rthere_set {w : World} {g o n : Nat} (h : w.there g o n) (p i : Nat) (v : Value) : (w.setCell ⟨p, i, none⟩ v).there g o n := World.there_setCells h p i [v]
theorem RdrAt.setPos {w : World} {g : Nat} {s : ByteArray} {b : Bs} (h : RdrAt w g s b) (k : Nat) : RdrAt (w.setCell ⟨g, 1, none⟩ (.int .i64 k)) g s { b with pos := k } :=
  ⟨by rw [rfar (by omega)]; exact h.c0, World.cell?_setCell_same _ _ _ h.c1, by rw [rfar (by omega)]; exact h.c2, rthere_set h.th _ _ _, by simpa using h.lt⟩
theorem RdrAt.step {w : World} {g : Nat} {s : ByteArray} {b : Bs} (h : RdrAt w g s b) : RdrAt (w.setCell ⟨g, 1, none⟩ (.int .i64 ((b.pos : Int) + 1))) g s (stepM b) := h.setPos (b.pos + 1)
theorem RdrAt.setErr {w : World} {g : Nat} {s : ByteArray} {b : Bs} (h : RdrAt w g s b) (e : Int) : RdrAt (w.setCell ⟨g, 2, none⟩ (.int .i64 e)) g s { b with err := e } :=
  ⟨by rw [rfar (by omega)]; exact h.c0, by rw [rfar (by omega)]; exact h.c1, World.cell?_setCell_same _ _ _ h.c2, rthere_set h.th _ _ _, by simpa using h.lt⟩
abbrev Kr (g : Nat) (w w' : World) : Prop := Keep (fun k => k = g) w w'
theorem Kr.refl (g : Nat) (w : World) : Kr g w w := Keep.refl _ w
theorem Kr.trans {g : Nat} {a b c : World} (h : Kr g a b) (h' : Kr g b c) : Kr g a c := Keep.trans h h' (fun _ hk => .inl hk)
theorem Kr.of_below {g : Nat} {w w' : World} (h : Below w.heap.size w w') : Kr g w w' := Keep.of_below h
theorem Kr.set (g : Nat) (w : World) (i : Nat) (v : Value) : Kr g w (w.setCell ⟨g, i, none⟩ v) := Keep.setCell (Keep.refl (fun k => k = g) w) (p := ⟨g, i, none⟩) rfl v
theorem Kr.cell {g : Nat} {w w' : World} (h : Kr g w w') {b o : Nat} {v : Value} (hv : w.cell? ⟨b, o, none⟩ = some v) (h1 : b ≠ g) : w'.cell? ⟨b, o, none⟩ = some v :=
  (World.cell?_of_block (a := ⟨b, o, none⟩) (h.block b (World.block_lt_of_cell? w _ hv) h1)).trans hv
set_option maxHeartbeats 1600000 in
set_option maxRecDepth 100000 in
theorem next_is (w : World) (g : Nat) (s : ByteArray) (b : Bs) (o : Option Nat) (ho : peekM s b = o) (h : RdrAt w g s b) (hp : b.pos ≤ 2000000) :
    Calls Try.prog 110 #[.pointer (some ⟨g, 0, none⟩)] w fun e w' => e = .returned (.tuple #[.int .u8 ((o.getD 0 : Nat) : Int), .bool o.isSome]) ∧ Below w.heap.size w w' := by
  obtain ⟨c0, c1, c2, _, _⟩ := h
  obtain ⟨pos, err, sts⟩ := b
  dsimp only at c1 c2 hp
  by_cases he : err = 0
  · subst he
    by_cases hps : pos < s.size
    · have hb : peekM s ⟨pos, 0, sts⟩ = some (byteM s pos) := rpeek_of rfl hps
      rw [hb] at ho
      subst ho
      have hn : decide ((pos : Int) < (s.size : Int)) = true := by simpa using hps
      have hn2 : decide ((s.size : Int) ≤ (pos : Int)) = false := by simpa using hps
      have hn3 : decide (s.size ≤ pos) = false := by simpa using hps
      have hi : (0 : Int) ≤ (pos : Int) := by omega
      have hi2 : (pos : Int) < (s.size : Int) := by omega
      have HB := rbyte_at s pos hps
      have HB' := Lib.hid HB
      clear hb HB
      go_enter Try.func110, Try.ntmps110
      go_wp2
      go_quiet (fail)
      go_wp2
      go_quiet (fail)
      go_wp2
      go_ret2
      refine ⟨?_, ?_⟩
      · simp only [Option.getD_some, Option.isSome_some]
        rw [← HB'.out]
        rfl
      · exact bl_drewN (bl_drewN (Below.refl _ _) _) _
    · have hb : peekM s ⟨pos, 0, sts⟩ = none := by unfold peekM; rw [if_neg (fun h => hps h.2)]
      rw [hb] at ho
      subst ho
      have hn : decide ((pos : Int) < (s.size : Int)) = false := by simpa using hps
      have hn2 : decide ((s.size : Int) ≤ (pos : Int)) = true := by simp; omega
      have hn3 : decide (s.size ≤ pos) = true := by simp; omega
      clear hb
      go_enter Try.func110, Try.ntmps110
      go_wp2
      go_quiet (fail)
      go_wp2
      go_ret2
      exact ⟨rfl, bl_drewN (Below.refl _ _) _⟩
  · have hb : peekM s ⟨pos, err, sts⟩ = none := by unfold peekM; rw [if_neg (fun h => he h.1)]
    rw [hb] at ho
    subst ho
    have hd : (err != 0) = true := by simpa using he
    have hd2 : (err == 0) = false := by simpa using he
    clear hb
    go_enter Try.func110, Try.ntmps110
    go_wp2
    go_quiet (fail)
    go_wp2
    go_ret2
    exact ⟨rfl, bl_drewN (Below.refl _ _) _⟩
set_option maxHeartbeats 800000 in
set_option maxRecDepth 100000 in
theorem rfail_is (w : World) (g : Nat) (s : ByteArray) (b : Bs) (e0 : Int) (h : RdrAt w g s b) :
    Calls Try.prog 98 #[.pointer (some ⟨g, 0, none⟩), .int .i64 e0] w fun e w' => e = .returned (.tuple #[]) ∧ RdrAt w' g s (failM b e0) ∧ Kr g w w' := by
  have h' := h
  obtain ⟨c0, c1, c2, th, _⟩ := h
  have f2 := there_free th 2 (by omega)
  obtain ⟨pos, err, sts⟩ := b
  dsimp only at c1 c2
  clear th
  by_cases he : err = 0
  · subst he
    have HN := Lib.hid (h'.setErr e0)
    have HF : Hid (failM ⟨pos, 0, sts⟩ e0 = ⟨pos, e0, sts⟩) := Lib.hid rfl
    clear h'
    go_enter Try.func98, Try.ntmps98
    go_wp2
    go_end0
    refine ⟨rfl, ?_, Kr.set g _ _ _⟩
    rw [HF.out]
    exact HN.out
  · have hd2 : (err == 0) = false := by simpa using he
    have HF : Hid (failM ⟨pos, err, sts⟩ e0 = ⟨pos, err, sts⟩) := Lib.hid (by unfold failM; rw [if_neg he])
    have HN := Lib.hid h'
    clear h'
    go_enter Try.func98, Try.ntmps98
    go_wp2
    go_end0
    refine ⟨rfl, ?_, Kr.refl _ _⟩
    rw [HF.out]
    exact HN.out
set_option maxHeartbeats 1600000 in
set_option maxRecDepth 100000 in
theorem rsign_is (w : World) (g : Nat) (s : ByteArray) (b : Bs) (h : RdrAt w g s b) (hp : b.pos ≤ 1000000) :
    Calls Try.prog 117 #[.pointer (some ⟨g, 0, none⟩)] w fun e w' => e = .returned (.int .u8 ((signM s b).2 : Nat)) ∧ RdrAt w' g s (signM s b).1 ∧ Kr g w w' := by
  obtain ⟨o, ho⟩ : ∃ o, peekM s b = o := ⟨_, rfl⟩
  have k1 := next_is w g s b o ho h (by omega)
  have HO := Lib.hid ho
  have HB := Lib.hid h
  clear ho h
  go_enter Try.func117, Try.ntmps117
  go_wp2_with fail
  refine k1.mono ?_
  rintro e w1 ⟨rfl, hb1⟩
  have HB1 := Lib.hid (HB.out.below hb1)
  have HS1 := Lib.hid (Kr.of_below (g := g) hb1)
  have c1 := HB1.out.c1
  have f1 := there_free HB1.out.th 1 (by omega)
  clear k1 hb1
  go_upto_region 3 with fail
  change Code.wp _ _ _ _ (w1.setCell ⟨g, 1, none⟩ (.int .i64 ((b.pos : Int) + 1)))
  have HB2 := Lib.hid HB1.out.step
  have HS2 := Lib.hid (HS1.out.trans (Kr.set g w1 1 (.int .i64 ((b.pos : Int) + 1))))
  clear c1 f1 HB1 HS1 HB
  generalize w1.setCell ⟨g, 1, none⟩ (.int .i64 ((b.pos : Int) + 1)) = w2 at *
  have kf := fun W b (h : RdrAt W g s b) => rfail_is W g s b 2 h
  have KF := Lib.hid kf
  clear kf
  cases o
  · have k2 := KF.out _ _ HB2.out
    go_wp2_with fail
    refine k2.mono ?_
    rintro e w3 ⟨rfl, hB3, hs3⟩
    have HB3 := Lib.hid hB3
    have HS3 := Lib.hid (HS2.out.trans hs3)
    clear k2 hB3 hs3
    go_wp2
    go_ret
    rw [rsign_none HO.out]
    exact ⟨rfl, HB3.out, HS3.out⟩
  · rename_i c
    by_cases hc : c = 92
    · subst hc
      obtain ⟨o, ho⟩ : ∃ o, peekM s (stepM b) = o := ⟨_, rfl⟩
      have k2 := next_is w2 g s (stepM b) o ho HB2.out (by simp only [stepM]; omega)
      have HO2 := Lib.hid ho
      clear ho
      go_wp2_with fail
      refine k2.mono ?_
      rintro e w3 ⟨rfl, hb3⟩
      have HB3 := Lib.hid (HB2.out.below hb3)
      have HS3 := Lib.hid (HS2.out.trans (Kr.of_below (g := g) hb3))
      have c1 := HB3.out.c1
      have f1 := there_free HB3.out.th 1 (by omega)
      have hps : (stepM b).pos ≤ 1000001 := by simp only [stepM]; omega
      clear k2 hb3 HB2 HS2
      go_upto_region 6 with fail
      change Code.wp _ _ _ _ (w3.setCell ⟨g, 1, none⟩ (.int .i64 (((stepM b).pos : Int) + 1)))
      have HB4 := Lib.hid HB3.out.step
      have HS4 := Lib.hid (HS3.out.trans (Kr.set g w3 1 (.int .i64 (((stepM b).pos : Int) + 1))))
      clear c1 f1 HB3 HS3
      generalize w3.setCell ⟨g, 1, none⟩ (.int .i64 (((stepM b).pos : Int) + 1)) = w4 at *
      cases o
      · have k2 := KF.out _ _ HB4.out
        go_wp2_with fail
        refine k2.mono ?_
        rintro e w5 ⟨rfl, hB5, hs5⟩
        have HB5 := Lib.hid hB5
        have HS5 := Lib.hid (HS4.out.trans hs5)
        clear k2 hB5 hs5
        go_wp2
        go_ret
        rw [rsign_end HO.out HO2.out]
        exact ⟨rfl, HB5.out, HS5.out⟩
      · rename_i d
        go_wp2
        go_ret
        rw [rsign_esc HO.out HO2.out]
        exact ⟨rfl, HB4.out, HS4.out⟩
    · have hcb : ((c : Int) == 92) = false := by rw [beq_eq_false_iff_ne]; omega
      have HC := Lib.hid hc
      clear hc
      go_wp2
      go_ret
      rw [rsign_plain HO.out HC.out]
      exact ⟨rfl, HB2.out, HS2.out⟩
end Go.Proofs.Ytipnhpfpppblhaa

/- The reference's tree: operations on a whole node (258 cells), one law each. -/
namespace Go.Proofs.Ytipnhpfpppblhaa
open Go.RowKit
def noB : Nat → Bool := fun _ => false
def zeroN (k : Int) : Array Value := (nodeC k noB (.slice none 0 0)).toArray
theorem zeroN_size (k : Int) : (zeroN k).size = 258 := by unfold zeroN; rw [List.size_toArray, nodeC_len]
theorem zeroN_list (k : Int) : (zeroN k).toList = nodeC k noB (.slice none 0 0) := by unfold zeroN; simp
set_option maxRecDepth 100000 in
theorem node_zero : (Try.prog.info? 134).map (fun i => (i.zero, i.size, i.bytes)) = some (some (.agg (zeroN 0)), 258, 288) := by kernel_rfl
theorem node_size : (Try.prog.info? 134).map (·.size) = some 258 := by
  have h := node_zero
  cases hq : Try.prog.info? 134 with
  | none => rw [hq] at h; cases h
  | some i =>
    rw [hq] at h
    simp only [Option.map_some, Option.some.injEq, Prod.mk.injEq] at h ⊢
    exact h.2.1
set_option maxRecDepth 100000 in
theorem node_built0 : Try.prog.built 134 [] = some (zeroN 0) := by kernel_rfl
set_option maxRecDepth 100000 in
theorem node_built1 : Try.prog.built 134 [(0, .int .i64 1)] = some (zeroN 1) := by kernel_rfl
set_option maxRecDepth 100000 in
theorem node_built2 : Try.prog.built 134 [(0, .int .i64 2)] = some (zeroN 2) := by kernel_rfl
set_option maxRecDepth 100000 in
theorem node_built3 (k : Int) (a : Option Addr) (n c : Nat) : Try.prog.built 134 [(0, .int .i64 k), (2, .slice a n c)] = some (nodeC k noB (.slice a n c)).toArray := by kernel_rfl
theorem node_run_zero (w : World) : (zeroValue 134).run Try.prog w = .ok (.agg (zeroN 0)) w := by
  have h := node_zero
  cases hq : Try.prog.info? 134 with
  | none => rw [hq] at h; cases h
  | some i =>
    rw [hq] at h
    simp only [Option.map_some, Option.some.injEq, Prod.mk.injEq] at h
    simp [zeroValue, typeInfo, hq, h.1]
section
variable {ops : Array Oper} {rest : List Oper} {o : Oper} {a : Act} {w : World} {Q : Exit → Act → World → Prop}
theorem wpList_allocN (hg : o.guard = none) (ho : o.op = .alloc 134) (dst : Option Tmp) (hdst : o.dst = dst) (N : Nat) (hN : w.heap.size = N)
    (h : wpList Try.prog ops Q rest (a.put dst (.pointer (some ⟨N, 0, none⟩))) (w.alloc (.cells (zeroN 0) 134))) : wpList Try.prog ops Q (o :: rest) a w := by
  subst hdst hN
  refine wpList_plain hg fun K hK => ?_
  unfold Oper.wp execOp
  simp only [ho, Sem.run_bind, Instr.alloc, newVar, newRow, node_run_zero, run_newObj_alloc, Sem.run_pure, Result.andThen_ok, Value.cells]
  exact hK _ _ h
theorem wpList_buildN (hg : o.guard = none) (parts : Array (Nat × Operand)) (ho : o.op = .build 134 parts) (dst : Option Tmp) (hdst : o.dst = dst) (cells : Array Value)
    (hf : Try.prog.built 134 (parts.map fun (i, x) => (i, a.eval x)).toList = some cells)
    (h : wpList Try.prog ops Q rest (a.put dst (.agg cells)) w) : wpList Try.prog ops Q (o :: rest) a w := by
  subst hdst
  refine wpList_build hg 134 parts ho (by rw [hf]; rfl) ?_
  rw [hf]
  exact h
theorem wpList_loadN (hg : o.guard = none) (x : Operand) (ho : o.op = .load 134 x) (dst : Option Tmp) (hdst : o.dst = dst) (b i : Nat) (hx : a.eval x = .pointer (some ⟨b, i, none⟩)) (cs : List Value) (hc : w.rangeAt b i cs) (hl : cs.length = 258)
    (h : wpList Try.prog ops Q rest (a.put dst (.agg cs.toArray)) w) : wpList Try.prog ops Q (o :: rest) a w := by
  subst hdst
  exact wpList_load_mid hg 134 x ho b i hx cs _ hc Try.underlying134 rfl (by rw [hl]; exact node_size) h
theorem wpList_storeN (hg : o.guard = none) (x y : Operand) (ho : o.op = .store 134 x y) (dst : Option Tmp) (hdst : o.dst = dst) (b i : Nat) (cs : List Value) (hx : a.eval x = .pointer (some ⟨b, i, none⟩)) (hy : a.eval y = .agg cs.toArray)
    (ht : w.there b i 258) (hl : cs.length = 258) (h1 : ∀ y ∈ cs, y.oneCell' = true)
    (h : wpList Try.prog ops Q rest (a.put dst undef) (w.setCells b i cs)) : wpList Try.prog ops Q (o :: rest) a w := by
  subst hdst
  refine wpList_store_mid hg 134 x y ho b i cs.toArray hx hy (by simpa [hl] using ht) (by simpa [hl] using node_size) (all_oneCell_toArray h1) ?_
  simpa using h
end
structure NdAt (w : World) (p : Nat) (cs : List Value) : Prop where
  at_ : w.rangeAt p 0 cs
  th : w.there p 0 258
  len : cs.length = 258
  lt : p < w.heap.size
theorem NdAt.keep {w w' : World} {p : Nat} {cs : List Value} (h : NdAt w p cs) (hs : w.heap.size ≤ w'.heap.size) (hk : w'.heap[p]? = w.heap[p]?) : NdAt w' p cs :=
  ⟨fun j v hv => (World.cell?_of_block (a := ⟨p, 0 + j, none⟩) hk).trans (h.at_ j v hv), fun j hj => by
    obtain ⟨h1, h2⟩ := h.th j hj
    exact ⟨by rw [World.cell?_of_block (a := ⟨p, 0 + j, none⟩) hk]; exact h1, by rw [World.frozen?_of_block (a := ⟨p, 0 + j, none⟩) hk]; exact h2⟩, h.len, Nat.lt_of_lt_of_le h.lt hs⟩
theorem NdAt.later {w w' : World} {p : Nat} {cs : List Value} (h : NdAt w p cs) (hb : Below w.heap.size w w') : NdAt w' p cs := h.keep hb.size (hb.block p h.lt)
theorem NdAt.kr {w w' : World} {g p : Nat} {cs : List Value} (h : NdAt w p cs) (hk : Kr g w w') (hne : p ≠ g) : NdAt w' p cs := h.keep hk.size (hk.block p h.lt hne)
theorem NdAt.cell {w : World} {p : Nat} {cs : List Value} (h : NdAt w p cs) {j : Nat} {v : Value} (hv : cs[j]? = some v) : w.cell? ⟨p, j, none⟩ = some v := by
  have := h.at_ j v hv
  rwa [Nat.zero_add] at this
theorem NdAt.free {w : World} {p : Nat} {cs : List Value} (h : NdAt w p cs) {j : Nat} (hj : j < 258) : w.frozen? ⟨p, j, none⟩ = false := by
  have := (h.th j hj).2
  rwa [Nat.zero_add] at this
theorem there_new (w : World) (k : Int) (t : TypeId) : (w.alloc (.cells (zeroN k) t)).there w.heap.size 0 258 := by
  have h := box_there (xs := zeroN k) (t := t) (Below.refl _ (w.alloc (.cells (zeroN k) t)))
  rwa [zeroN_size] at h
theorem NdAt.new (w : World) (k : Int) (t : TypeId) : NdAt (w.alloc (.cells (zeroN k) t)) w.heap.size (nodeC k noB (.slice none 0 0)) :=
  ⟨fun j v hv => by
    rw [Nat.zero_add]
    refine (box_cells (Below.refl _ (w.alloc (.cells (zeroN k) t)))).1 j v ?_
    rw [← Array.getElem?_toList, zeroN_list]
    exact hv, there_new w k t, nodeC_len _ _ _, by rw [World.size_alloc]; omega⟩
theorem size_setCells (w : World) (g o : Nat) (vs : List Value) : (w.setCells g o vs).heap.size = w.heap.size := by
  induction vs generalizing w o with
  | nil => rfl
  | cons v r ih => rw [World.setCells, ih]; simp
theorem NdAt.stored {w : World} {p : Nat} {old cs : List Value} (h : NdAt w p old) (hl : cs.length = 258) : NdAt (w.setCells p 0 cs) p cs :=
  ⟨World.rangeAt_setCells_same w p 0 cs (by rw [hl]; exact h.th), World.there_setCells h.th p 0 cs, hl, by rw [size_setCells]; exact h.lt⟩
theorem NdAt.set {w : World} {p : Nat} {cs : List Value} (h : NdAt w p cs) (j : Nat) (v : Value) (hj : j < 258) : NdAt (w.setCell ⟨p, j, none⟩ v) p (cs.set j v) :=
  ⟨fun i u hu => by
    rw [Nat.zero_add]
    rw [List.getElem?_set] at hu
    split at hu
    · rename_i e
      subst e
      split at hu
      · rw [← Option.some.inj hu]
        exact World.cell?_setCell_same _ _ _ (h.cell (List.getElem?_eq_getElem (by rw [h.len]; exact hj)))
      · cases hu
    · rename_i e
      rw [rfar (by omega)]
      exact h.cell hu, rthere_set h.th _ _ _, by simpa using h.len, by simpa using h.lt⟩
theorem nodeC_setK (k : Int) (S : Nat → Bool) (kv kv' : Value) : (nodeC k S kv).set 257 kv' = nodeC k S kv' := by
  unfold nodeC
  rw [show (257 : Nat) = 256 + 1 by rfl, List.set_cons_succ, List.set_append_right _ _ (by rw [boolC_len]; exact Nat.le_refl _), boolC_len]
  rfl
theorem nodeC_setB (k : Int) (S : Nat → Bool) (kv : Value) (c : Nat) (hc : c < 256) (v : Bool) : (nodeC k S kv).set (1 + c) (.bool v) = nodeC k (fun x => if x = c then v else S x) kv := by
  unfold nodeC
  rw [Nat.add_comm, List.set_cons_succ, List.set_append_left _ _ (by rw [boolC_len]; exact hc)]
  congr 2
  unfold boolC
  apply List.ext_getElem?
  intro i
  rw [List.getElem?_set]
  by_cases hi : i < 256
  · simp only [List.getElem?_map, List.getElem?_range hi, List.length_map, List.length_range, Option.map_some]
    by_cases e : c = i
    · subst e
      simp [hi]
    · simp [e, Ne.symm e]
  · have h1 : ((List.range 256).map fun c => Value.bool (S c))[i]? = none := List.getElem?_eq_none (by simp; omega)
    have h2 : ((List.range 256).map fun x => Value.bool (if x = c then v else S x))[i]? = none := List.getElem?_eq_none (by simp; omega)
    rw [h1, h2, if_neg (by omega)]
end Go.Proofs.Ytipnhpfpppblhaa

/- The reference's reader under way: what its functions carry. -/
namespace Go.Proofs.Ytipnhpfpppblhaa
open Go.RowKit
abbrev nilS : Value := .slice none 0 0
theorem Kr.new {g : Nat} {w0 w : World} (h : Kr g w0 w) (p i : Nat) (v : Value) (hp : w0.heap.size ≤ p) : Kr g w0 (w.setCell ⟨p, i, none⟩ v) :=
  ⟨h.os, h.tape, h.output, by rw [World.size_setCell]; exact h.size, fun k hk hn => by rw [Below.heap_setCell w ⟨p, i, none⟩ v k (by show k ≠ p; omega)]; exact h.block k hk hn⟩
theorem Kr.news {g : Nat} {w0 w : World} (h : Kr g w0 w) (p : Nat) (hp : w0.heap.size ≤ p) : ∀ (vs : List Value) (o : Nat), Kr g w0 (w.setCells p o vs) := by
  intro vs
  induction vs generalizing w with
  | nil => intro o; exact h
  | cons v r ih => intro o; exact ih (h.new p o v hp) (o + 1)
theorem RdrAt.kept {w w' : World} {g : Nat} {s : ByteArray} {b : Bs} (h : RdrAt w g s b) (hs : w.heap.size ≤ w'.heap.size) (hk : w'.heap[g]? = w.heap[g]?) : RdrAt w' g s b :=
  ⟨(World.cell?_of_block (a := ⟨g, 0, none⟩) hk).trans h.c0, (World.cell?_of_block (a := ⟨g, 1, none⟩) hk).trans h.c1, (World.cell?_of_block (a := ⟨g, 2, none⟩) hk).trans h.c2,
    fun j hj => by
      obtain ⟨h1, h2⟩ := h.th j hj
      exact ⟨by rw [World.cell?_of_block (a := ⟨g, 0 + j, none⟩) hk]; exact h1, by rw [World.frozen?_of_block (a := ⟨g, 0 + j, none⟩) hk]; exact h2⟩, Nat.lt_of_lt_of_le h.lt hs⟩
theorem there_kept {w w' : World} {p n : Nat} (h : w.there p 0 n) (hk : w'.heap[p]? = w.heap[p]?) : w'.there p 0 n := fun j hj => by
  obtain ⟨h1, h2⟩ := h j hj
  exact ⟨by rw [World.cell?_of_block (a := ⟨p, 0 + j, none⟩) hk]; exact h1, by rw [World.frozen?_of_block (a := ⟨p, 0 + j, none⟩) hk]; exact h2⟩
theorem heap_setCells (w : World) (p k : Nat) (hk : k ≠ p) : ∀ (vs : List Value) (o : Nat), (w.setCells p o vs).heap[k]? = w.heap[k]? := by
  intro vs
  induction vs generalizing w with
  | nil => intro o; rfl
  | cons v r ih => intro o; exact (ih (w.setCell ⟨p, o, none⟩ v) (o + 1)).trans (Below.heap_setCell w ⟨p, o, none⟩ v k hk)
def rposAt (w : World) (g : Nat) : Nat := match w.cell? ⟨g, 1, none⟩ with
  | some (.int _ n) => n.toNat
  | _ => 0
theorem RdrAt.posAt {w : World} {g : Nat} {s : ByteArray} {b : Bs} (h : RdrAt w g s b) : rposAt w g = b.pos := by
  unfold rposAt
  rw [h.c1]
  simp
structure Clr (w0 w : World) (g : Nat) (s : ByteArray) (b : Bs) (cs : List Value) : Prop where
  rdr : RdrAt w g s b
  nd : NdAt w (w0.heap.size + 1) cs
  res : w.there w0.heap.size 0 258
  kr : Kr g w0 w
  gl : g < w0.heap.size
theorem Clr.new {w : World} {g : Nat} {s : ByteArray} {b : Bs} (h : RdrAt w g s b) (k : Int) (t : TypeId) : Clr w (((w.alloc (.cells (zeroN 0) t)).alloc (.cells (zeroN 0) t)).setCells (w.heap.size + 1) 0 (nodeC k noB nilS)) g s b (nodeC k noB nilS) := by
  have b1 : Below w.heap.size w (w.alloc (.cells (zeroN 0) t)) := alloc_below _ _
  have b2 : Below w.heap.size w ((w.alloc (.cells (zeroN 0) t)).alloc (.cells (zeroN 0) t)) := b1.trans ((alloc_below _ _).mono b1.size)
  have n2 := NdAt.new (w.alloc (.cells (zeroN 0) t)) 0 t
  have r2 := there_later (there_new w 0 t) (alloc_below (w.alloc (.cells (zeroN 0) t)) (.cells (zeroN 0) t)) (by rw [World.size_alloc]; omega)
  rw [World.size_alloc] at n2
  refine ⟨(h.below b2).kept (by rw [size_setCells]; exact Nat.le_refl _) (heap_setCells _ _ _ (by have := h.lt; omega) _ _), n2.stored (nodeC_len _ _ _), there_kept r2 (heap_setCells _ _ _ (by omega) _ _), (Kr.of_below b2).news _ (by omega) _ _, h.lt⟩
theorem Clr.below {w0 w w' : World} {g : Nat} {s : ByteArray} {b : Bs} {cs : List Value} (h : Clr w0 w g s b cs) (hb : Below w.heap.size w w') : Clr w0 w' g s b cs :=
  ⟨h.rdr.below hb, h.nd.later hb, there_later h.res hb (by have := h.nd.lt; omega), h.kr.trans (Kr.of_below hb), h.gl⟩
theorem Clr.stp {w0 w w' : World} {g : Nat} {s : ByteArray} {b b' : Bs} {cs : List Value} (h : Clr w0 w g s b cs) (hr : RdrAt w' g s b') (hk : Kr g w w') : Clr w0 w' g s b' cs :=
  ⟨hr, h.nd.kr hk (by have := h.gl; omega), there_kept h.res (hk.block _ (by have := h.nd.lt; omega) (by have := h.gl; omega)), h.kr.trans hk, h.gl⟩
theorem Clr.step {w0 w : World} {g : Nat} {s : ByteArray} {b : Bs} {cs : List Value} (h : Clr w0 w g s b cs) : Clr w0 (w.setCell ⟨g, 1, none⟩ (.int .i64 ((b.pos : Int) + 1))) g s (stepM b) cs :=
  h.stp h.rdr.step (Kr.set g w 1 _)
theorem Clr.put {w0 w : World} {g : Nat} {s : ByteArray} {b : Bs} {cs : List Value} (h : Clr w0 w g s b cs) (j : Nat) (v : Value) (hj : j < 258) : Clr w0 (w.setCell ⟨w0.heap.size + 1, j, none⟩ v) g s b (cs.set j v) :=
  ⟨h.rdr.kept (by simp) (Below.heap_setCell w _ v g (by show g ≠ w0.heap.size + 1; have := h.gl; omega)), h.nd.set j v hj, rthere_set h.res _ _ _, h.kr.new _ _ _ (by omega), h.gl⟩
theorem Clr.all {w0 w : World} {g : Nat} {s : ByteArray} {b : Bs} {cs : List Value} (h : Clr w0 w g s b cs) (cs' : List Value) (hl : cs'.length = 258) : Clr w0 (w.setCells (w0.heap.size + 1) 0 cs') g s b cs' :=
  ⟨h.rdr.kept (by rw [size_setCells]; exact Nat.le_refl _) (heap_setCells _ _ _ (by have := h.gl; omega) _ _), h.nd.stored hl, World.there_setCells h.res _ _ _, h.kr.news _ (by omega) _ _, h.gl⟩
theorem Clr.done {w0 w : World} {g : Nat} {s : ByteArray} {b : Bs} {cs : List Value} (h : Clr w0 w g s b cs) (vs : List Value) : RdrAt (w.setCells w0.heap.size 0 vs) g s b ∧ Kr g w0 (w.setCells w0.heap.size 0 vs) :=
  ⟨h.rdr.kept (by rw [size_setCells]; exact Nat.le_refl _) (heap_setCells _ _ _ (by have := h.gl; omega) _ _), h.kr.news _ (Nat.le_refl _) _ _⟩
theorem oneN (k : Int) (S : Nat → Bool) : ∀ y ∈ nodeC k S nilS, y.oneCell' = true := nodeC_one k S nilS rfl
def addU (S : Nat → Bool) (lo k : Nat) : Nat → Bool := fun c => S c || (decide (lo ≤ c) && decide (c < k))
theorem addU_start (S : Nat → Bool) (lo : Nat) : addU S lo lo = S := by
  funext c
  have : (decide (lo ≤ c) && decide (c < lo)) = false := by
    by_cases h : lo ≤ c
    · rw [decide_eq_false (show ¬ c < lo by omega), Bool.and_false]
    · rw [decide_eq_false h, Bool.false_and]
  unfold addU
  rw [this, Bool.or_false]
theorem addU_end {S : Nat → Bool} {lo hi k : Nat} (h1 : hi < k) (h2 : k ≤ hi + 1 ∨ k = lo) : addU S lo k = addS S lo hi := by
  funext c
  unfold addU addS
  congr 1
  by_cases h : lo ≤ c
  · rw [decide_eq_true h, Bool.true_and, Bool.true_and]
    by_cases h3 : c ≤ hi
    · rw [decide_eq_true h3, decide_eq_true (by omega)]
    · rw [decide_eq_false h3, decide_eq_false (by omega)]
  · rw [decide_eq_false h, Bool.false_and, Bool.false_and]
theorem addU_succ {S : Nat → Bool} {lo k : Nat} (h : lo ≤ k) : (fun x => if x = k then true else addU S lo k x) = addU S lo (k + 1) := by
  funext c
  unfold addU
  by_cases e : c = k
  · subst e
    rw [if_pos rfl, decide_eq_true h, decide_eq_true (Nat.lt_succ_self c)]
    simp
  · rw [if_neg e]
    congr 2
    exact decide_eq_decide.2 (by omega)
def turnU (S : Nat → Bool) (k : Nat) : Nat → Bool := fun c => if c < k then !S c else S c
theorem turnU_zero (S : Nat → Bool) : turnU S 0 = S := by funext c; unfold turnU; rw [if_neg (by omega)]
theorem turnU_at (S : Nat → Bool) (k : Nat) : turnU S k k = S k := by unfold turnU; rw [if_neg (by omega)]
theorem turnU_succ (S : Nat → Bool) (k : Nat) : (fun x => if x = k then !S k else turnU S k x) = turnU S (k + 1) := by
  funext c
  unfold turnU
  by_cases e : c = k
  · subst e
    rw [if_pos rfl, if_pos (by omega)]
  · rw [if_neg e]
    have : (c < k) = (c < k + 1) := propext (by omega)
    simp only [this]
theorem nodeC_congr {k : Int} {S T : Nat → Bool} (h : ∀ c, c < 256 → S c = T c) (kv : Value) : nodeC k S kv = nodeC k T kv := by
  unfold nodeC boolC
  congr 2
  exact List.map_congr_left (fun c hc => by rw [h c (List.mem_range.1 hc)])
theorem turnU_all (S : Nat → Bool) (k : Int) (kv : Value) : nodeC k (turnU S 256) kv = nodeC k (turnS S) kv :=
  nodeC_congr (fun c hc => by unfold turnU turnS; rw [if_pos hc]) kv
end Go.Proofs.Ytipnhpfpppblhaa

/- The tree of a pattern; the builder's states fit its texts. No program in sight. -/
namespace Go.Proofs.Ytipnhpfpppblhaa
def timesR (s : ByteArray) (b : Bs) (a : Re) : Re := match peekM s b with
  | none => a
  | some c => if c = 42 then .star a else if c = 43 then .plus a else if c = 63 then .opt a else a
def reM (s : ByteArray) : Nat → Md → Re → Nat → Bs → Re
  | 0, _, acc, _, _ => acc
  | n + 1, .either, _, d, b => reM s n (.alts (b.sts.length, b.sts.length + 1)) .no d (nodeM (nodeM b))
  | n + 1, .alts p, acc, d, b =>
    let r := runM s n .row d b
    let a := Re.alt acc (reM s n .row .no d b)
    let b2 := freeM (freeM r.1 p.1 r.2.1) r.2.2 p.2
    if peekM s b2 = some 124 then reM s n (.alts p) a d (stepM b2) else a
  | n + 1, .row, _, d, b => reM s n (.parts (b.sts.length, b.sts.length)) .eps d (nodeM b)
  | n + 1, .parts p, acc, d, b =>
    match peekM s b with
    | none => acc
    | some c => if c = 124 ∨ c = 41 then acc else
      let r := runM s n .atom d b
      let t := timesM s r.1 r.2
      reM s n (.parts (p.1, t.2.2)) (.cat acc (timesR s r.1 (reM s n .atom .no d b))) d (freeM t.1 p.2 t.2.1)
  | n + 1, .atom, _, d, b =>
    let c := byteM s b.pos
    let b1 := stepM b
    if c = 40 then
      (if d = 8 then .set noS else reM s n .either .no (d + 1) b1)
    else if c = 91 then .set (classM s b1).2
    else if c = 46 then .set (turnS noS)
    else if c = 92 then
      (match peekM s b1 with
       | none => .set (oneS 0)
       | some e => .set (oneS e))
    else if oddB c = true then .set noS
    else .set (oneS c)
structure Made (b : Bs) (lo : Nat) (r : Bs × (Nat × Nat)) (a : Re) : Prop where
  old : ∀ k, k < lo → r.1.sts[k]? = b.sts[k]?
  frg : Frg r.1.sts lo r.1.sts.length r.2.1 r.2.2 a
def reT (p : ByteArray) : Re := reM p (8 * p.size + 5) .either .no 0 bs0
end Go.Proofs.Ytipnhpfpppblhaa

/- The reference's class: a contract. -/
namespace Go.Proofs.Ytipnhpfpppblhaa
open Go.RowKit
def RLoop (w0 : World) (g : Nat) (s : ByteArray) (r : Bs × (Nat → Bool)) (v : Value) (w : World) : Prop :=
  ∃ (n i : Nat) (b : Bs) (S : Nat → Bool), v = .int .i64 (i : Nat) ∧ loopM s (n + 1) (decide (i = 0)) b S = r ∧ s.size - b.pos ≤ n ∧ b.pos ≤ s.size + 1 ∧ i ≤ b.pos ∧ Clr w0 w g s b (nodeC 0 S nilS)
theorem rloop_none {s : ByteArray} {n : Nat} {first : Bool} {b : Bs} {S : Nat → Bool} (h : peekM s b = none) : loopM s (n + 1) first b S = (failM b 2, S) := by rw [loopM, h]
theorem rloop_first {s : ByteArray} {n : Nat} {b : Bs} {S : Nat → Bool} (h : peekM s b = some 93) : loopM s (n + 1) true b S = (failM b 2, S) := by rw [loopM, h]; rfl
theorem rloop_end {s : ByteArray} {n : Nat} {b : Bs} {S : Nat → Bool} (h : peekM s b = some 93) : loopM s (n + 1) false b S = (stepM b, S) := by rw [loopM, h]; rfl
theorem rloop_on {s : ByteArray} {n d : Nat} {first : Bool} {b : Bs} {S : Nat → Bool} (h : peekM s b = some d) (hd : d ≠ 93) {x : Bs × Nat} (hx : signM s b = x) {y : Bs × Nat} (hy : rangeM s x.1 x.2 = y) : loopM s (n + 1) first b S = loopM s n false (if y.2 < x.2 then failM y.1 2 else y.1) (addS S x.2 y.2) := by
  rw [loopM, h]
  dsimp only
  rw [if_neg hd, hx, hy]
theorem rrange_false {s : ByteArray} {b : Bs} (h : peekM s b ≠ some 45) : rangeB s b = false := by unfold rangeB; rw [decide_eq_false h]; rfl
theorem rrange_at {s : ByteArray} {b : Bs} (h : peekM s b = some 45) : rangeB s b = (decide (b.pos + 1 < s.size) && !decide (byteM s (b.pos + 1) = 93)) := by unfold rangeB; rw [decide_eq_true h]; rfl
theorem rpeek_lt {s : ByteArray} {b : Bs} {c : Nat} (h : peekM s b = some c) : c < 256 := by rw [(peekM_some h).2.2]; exact byteM_lt _ _
theorem wp_forget2 {Pr : Program} {Q : Exit → Act → World → Prop} {c : Code} {a : Act} {W : World} (P : World → Prop) (h : P W) (k : ∀ W', P W' → Code.wp Pr c Q a W') : Code.wp Pr c Q a W := k W h
theorem is_94 (o : Option Nat) : (((o.getD 0 : Nat) : Int) == 94) = decide (o = some 94) := by
  cases o with
  | none => rfl
  | some c =>
    by_cases h : c = 94
    · subst h; rfl
    · rw [decide_eq_false (by simpa using h), beq_eq_false_iff_ne]
      show (c : Int) ≠ 94
      omega
set_option maxHeartbeats 12800000 in
set_option maxRecDepth 100000 in
theorem rclass_is (w : World) (g : Nat) (s : ByteArray) (b1 : Bs) (h : RdrAt w g s b1) (hp : b1.pos ≤ s.size) (hs : s.size ≤ 1000) :
    Calls Try.prog 116 #[.pointer (some ⟨g, 0, none⟩)] w fun e w' => ∃ S' b', e = .returned (.agg (nodeC 0 S' nilS).toArray) ∧ RdrAt w' g s b' ∧ b'.err = (classM s b1).1.err ∧ b'.pos ≤ s.size + 1 ∧
      (b'.err = 0 → b'.pos = (classM s b1).1.pos ∧ nodeC 0 S' nilS = nodeC 0 (classM s b1).2 nilS) ∧ Kr g w w' := by
  have hc := Clr.new h 0 134
  have kf := fun W b (h : RdrAt W g s b) => rfail_is W g s b 2 h
  have KF := Lib.hid kf
  have HC0 := Lib.hid hc
  clear kf hc h
  go_enter Try.func116, Try.ntmps116
  go_upto_region 2 with (first
    | (with_reducible refine wpList_allocN rfl rfl _ rfl w.heap.size rfl ?_)
    | (with_reducible refine wpList_allocN rfl rfl _ rfl (w.heap.size + 1) (World.size_alloc _ _) ?_)
    | ((with_reducible refine wpList_buildN rfl _ rfl _ rfl (zeroN 0) ?hf ?_); (case hf => exact node_built0))
    | ((with_reducible refine wpList_storeN rfl _ _ rfl _ rfl (w.heap.size + 1) 0 (nodeC 0 noB nilS) ?hx ?hy ?ht (nodeC_len _ _ _) (oneN _ _) ?_); (case hx => rfl); (case hy => rfl); (case ht => exact (by have := there_new (w.alloc (.cells (zeroN 0) 134)) 0 134; rwa [World.size_alloc] at this))))
  refine wp_forget2 (fun W => Clr w W g s b1 (nodeC 0 noB nilS)) HC0.out (fun w1 hw1 => ?_)
  have H1 := Lib.hid hw1
  obtain ⟨o, ho⟩ : ∃ o, peekM s b1 = o := ⟨_, rfl⟩
  have k1 := next_is w1 g s b1 o ho H1.out.rdr (by omega)
  have HO := Lib.hid ho
  clear ho hw1 HC0
  go_wp2_with fail
  refine k1.mono ?_
  rintro e w2 ⟨rfl, hb⟩
  have H2 := Lib.hid (H1.out.below hb)
  clear k1 hb H1
  obtain ⟨nt, hnt⟩ : ∃ nt, decide (o = some 94) = nt := ⟨_, rfl⟩
  have hv : (((o.getD 0 : Nat) : Int) == 94) = nt := (is_94 o).trans hnt
  have HNT := Lib.hid hnt
  clear hnt
  go_upto_if 22 with fail
  clear hv
  go_cut [] from 23 (fun wx => Hid (Clr w wx g s (if nt = true then stepM b1 else b1) (nodeC 0 noB nilS)))
  case first =>
    cases nt with
    | true =>
      have c1 := H2.out.rdr.c1
      have f1 := there_free H2.out.rdr.th 1 (by omega)
      go_wp2
      go_meet
      exact Lib.hid (by rw [if_pos (by simp)]; exact H2.out.step)
    | false =>
      go_wp2
      go_meet
      exact Lib.hid (by rw [if_neg (by simp)]; exact H2.out)
  case rest =>
  obtain ⟨b0, hb0⟩ : ∃ b0, (if nt = true then stepM b1 else b1) = b0 := ⟨_, rfl⟩
  rw [hb0] at hcut
  have HX := hcut
  have hp0 : b0.pos ≤ s.size + 1 := by rw [← hb0]; split <;> (try simp only [stepM]) <;> omega
  obtain ⟨r0, hr0⟩ : ∃ r0, loopM s (s.size + 1) true b0 noS = r0 := ⟨_, rfl⟩
  have HR0 := Lib.hid hr0
  have HCM : Hid (classM s b1 = (r0.1, if nt = true then turnS r0.2 else r0.2)) := Lib.hid (by
    have h1 := HNT.out
    unfold classM
    cases nt with
    | true =>
      have h2 : o = some 94 := of_decide_eq_true h1
      rw [if_pos (HO.out.trans h2), if_pos rfl]
      rw [if_pos rfl] at hb0
      rw [hb0, hr0]
    | false =>
      have h2 : ¬ o = some 94 := of_decide_eq_false h1
      rw [if_neg (by rw [HO.out]; exact h2), if_neg (by decide)]
      rw [if_neg (by decide)] at hb0
      rw [hb0, hr0])
  clear hr0 hb0 hcut H2 HO HNT hp
  go_wp2
  go_loopw [7] (fun v wr => RLoop w g s r0 v wr) (fun _ wr => s.size + 5 - rposAt wr g)
  case atStart => exact ⟨s.size, 0, b0, noS, rfl, HR0.out, by omega, hp0, by omega, HX.out⟩
  case round =>
    clear HX HR0 hp0 b0
    obtain ⟨n, i, b, S, rfl, he, hn, hp, hip, hC⟩ := hrel
    have HE := Lib.hid he
    have HC := Lib.hid hC
    obtain ⟨o, ho⟩ : ∃ o, peekM s b = o := ⟨_, rfl⟩
    have k1 := next_is wr g s b o ho HC.out.rdr (by omega)
    have HO := Lib.hid ho
    clear he hC ho
    go_wp2_with fail
    refine k1.mono ?_
    rintro e wa ⟨rfl, hba⟩
    have HA := Lib.hid (HC.out.below hba)
    clear k1 hba
    rcases o with _ | d
    · have kq := KF.out _ _ HA.out.rdr
      go_wp2_with fail
      refine kq.mono ?_
      rintro e w1 ⟨rfl, hB1, hs1⟩
      have H1 := Lib.hid (HA.out.stp hB1 hs1)
      clear kq hB1 hs1
      go_wp2_with (first
      | ((with_reducible refine wpList_loadN rfl _ rfl _ rfl (w.heap.size + 1) 0 ?hx (nodeC 0 S nilS) ?hc (nodeC_len _ _ _) ?_); (case hx => rfl); (case hc => exact H1.out.nd.at_))
      | ((with_reducible refine wpList_storeN rfl _ _ rfl _ rfl w.heap.size 0 (nodeC 0 S nilS) ?hx ?hy ?ht (nodeC_len _ _ _) (oneN _ _) ?_); (case hx => rfl); (case hy => rfl); (case ht => exact H1.out.res)))
      refine bodyPost_ret (results_agg1 rfl _ _ w.heap.size (nodeC 0 S nilS) (.struct _) rfl (World.rangeAt_setCells_same _ _ _ _ (by rw [nodeC_len]; exact H1.out.res)) Try.underlying134 rfl (by rw [nodeC_len]; exact node_size)) rfl ?_
      have he := HE.out
      rw [rloop_none HO.out] at he
      subst he
      refine ⟨S, _, rfl, (H1.out.done _).1, ?_, ?_, ?_, (H1.out.done _).2⟩
      · rw [HCM.out]
      · rw [failM_pos]; exact hp
      · intro h0; exact absurd h0 (failM_err (by decide))
    · by_cases hd : d = 93
      · subst hd
        have c1 := HA.out.rdr.c1
        have f1 := there_free HA.out.rdr.th 1 (by omega)
        have hps := (peekM_some HO.out).2.1
        have hi0 : (((i : Nat) : Int) == 0) = decide (i = 0) := by
          by_cases h : i = 0
          · subst h; rfl
          · rw [decide_eq_false h, beq_eq_false_iff_ne]; omega
        obtain ⟨B, hB⟩ : ∃ B, decide (i = 0) = B := ⟨_, rfl⟩
        rw [hB] at hi0
        have HBI := Lib.hid hB
        clear hB
        go_upto_region 14 with fail
        refine wp_forget2 (fun W => Clr w W g s (stepM b) (nodeC 0 S nilS)) HA.out.step (fun w2 hw2 => ?_)
        have H2 := Lib.hid hw2
        clear hw2 c1 f1 HA HC
        go_upto_if 52 with fail
        clear hi0
        go_cut [] from 30 to 118 (fun wx => ∃ b' : Bs, b'.err = r0.1.err ∧ b'.pos ≤ s.size + 1 ∧ (b'.err = 0 → b'.pos = r0.1.pos) ∧ r0.2 = S ∧ Hid (Clr w wx g s b' (nodeC 0 S nilS)))
        case first =>
          have he := HE.out
          rw [HBI.out] at he
          cases B with
          | true =>
            rw [rloop_first HO.out] at he
            subst he
            have kq := KF.out _ _ H2.out.rdr
            go_wp2_with fail
            refine kq.mono ?_
            rintro e w3 ⟨rfl, hB3, hs3⟩
            have H3 := Lib.hid (H2.out.stp hB3 hs3)
            clear kq hB3 hs3
            go_wp2
            go_meet
            have he0 := (peekM_some HO.out).1
            refine ⟨_, ?_, ?_, ?_, by trivial, H3⟩
            · unfold failM stepM; simp [he0]
            · rw [failM_pos]; simp only [stepM]; omega
            · intro h0; exact absurd h0 (failM_err (by decide))
          | false =>
            rw [rloop_end HO.out] at he
            subst he
            go_wp2
            go_meet
            exact ⟨stepM b, rfl, by simp only [stepM]; omega, fun _ => rfl, by trivial, H2⟩
        case rest =>
        obtain ⟨b', he1, he2, he3, he4, H4⟩ := hcut
        subst he4
        have HF := Lib.hid (And.intro he1 (And.intro he2 he3))
        clear he1 he2 he3 H2 HE HO HBI hps hip hp hn
        generalize r0.2 = S at *
        cases nt with
        | true =>
          go_wp2
          go_loopw [13] (fun v wr => ∃ k : Nat, v = .int .i64 (k : Nat) ∧ k ≤ 256 ∧ Hid (Clr w wr g s b' (nodeC 0 (turnU S k) nilS))) (fun v _ => 257 - (intOf v).toNat)
          case atStart => exact ⟨0, rfl, by omega, Lib.hid (by rw [turnU_zero]; exact H4.out)⟩
          case round =>
            clear H4
            obtain ⟨k, rfl, hk, HT⟩ := hrel
            by_cases hk2 : k < 256
            · have n1 := HT.out.nd.cell (nodeC_set 0 (turnU S k) nilS k hk2)
              have f1 := HT.out.nd.free (j := 1 + k) (by omega)
              have hk0 : (0 : Int) ≤ (k : Int) := by omega
              have hk1 : (k : Int) < 256 := by omega
              go_wp2
              go_roundw
              case rel => exact ⟨k + 1, by go_num, by omega, Lib.hid (by
                have := HT.out.put (1 + k) (.bool (!(turnU S k k))) (by omega)
                rw [nodeC_setB 0 _ _ k hk2, turnU_at, turnU_succ] at this
                rw [turnU_at]
                exact this)⟩
              case measure => (simp [intOf]; try omega)
            · obtain rfl : k = 256 := by omega
              go_wp2_with (first
      | ((with_reducible refine wpList_loadN rfl _ rfl _ rfl (w.heap.size + 1) 0 ?hx (nodeC 0 (turnU S 256) nilS) ?hc (nodeC_len _ _ _) ?_); (case hx => rfl); (case hc => exact HT.out.nd.at_))
      | ((with_reducible refine wpList_storeN rfl _ _ rfl _ rfl w.heap.size 0 (nodeC 0 (turnU S 256) nilS) ?hx ?hy ?ht (nodeC_len _ _ _) (oneN _ _) ?_); (case hx => rfl); (case hy => rfl); (case ht => exact HT.out.res)))
              refine bodyPost_ret (results_agg1 rfl _ _ w.heap.size (nodeC 0 (turnU S 256) nilS) (.struct _) rfl (World.rangeAt_setCells_same _ _ _ _ (by rw [nodeC_len]; exact HT.out.res)) Try.underlying134 rfl (by rw [nodeC_len]; exact node_size)) rfl ?_
              refine ⟨turnU S 256, _, rfl, (HT.out.done _).1, ?_, HF.out.2.1, ?_, (HT.out.done _).2⟩
              · rw [HCM.out]; exact HF.out.1
              · intro h0
                refine ⟨?_, ?_⟩
                · rw [HCM.out]; exact HF.out.2.2 h0
                · rw [HCM.out, if_pos (by simp)]; exact turnU_all S 0 nilS
        | false =>
          go_wp2
          go_loopw [13] (fun v wr => v = .int .i64 ((0 : Nat) : Int) ∧ Hid (Clr w wr g s b' (nodeC 0 S nilS))) (fun v _ => 0)
          case atStart => exact ⟨rfl, H4⟩
          case round =>
            clear H4
            obtain ⟨rfl, HT⟩ := hrel
            go_wp2_with (first
      | ((with_reducible refine wpList_loadN rfl _ rfl _ rfl (w.heap.size + 1) 0 ?hx (nodeC 0 S nilS) ?hc (nodeC_len _ _ _) ?_); (case hx => rfl); (case hc => exact HT.out.nd.at_))
      | ((with_reducible refine wpList_storeN rfl _ _ rfl _ rfl w.heap.size 0 (nodeC 0 S nilS) ?hx ?hy ?ht (nodeC_len _ _ _) (oneN _ _) ?_); (case hx => rfl); (case hy => rfl); (case ht => exact HT.out.res)))
            refine bodyPost_ret (results_agg1 rfl _ _ w.heap.size (nodeC 0 S nilS) (.struct _) rfl (World.rangeAt_setCells_same _ _ _ _ (by rw [nodeC_len]; exact HT.out.res)) Try.underlying134 rfl (by rw [nodeC_len]; exact node_size)) rfl ?_
            refine ⟨S, _, rfl, (HT.out.done _).1, ?_, HF.out.2.1, ?_, (HT.out.done _).2⟩
            · rw [HCM.out]; exact HF.out.1
            · intro h0
              refine ⟨?_, ?_⟩
              · rw [HCM.out]; exact HF.out.2.2 h0
              · rw [HCM.out, if_neg (by simp)]
      · have hdb : ((d : Int) == 93) = false := by rw [beq_eq_false_iff_ne]; omega
        have HD := Lib.hid hd
        have hps := (peekM_some HO.out).2.1
        obtain ⟨xb, lo, hx⟩ : ∃ xb lo, signM s b = (xb, lo) := ⟨_, _, rfl⟩
        have k2 := rsign_is wa g s b HA.out.rdr (by omega)
        have hsp := signM_pos s b hps
        have hlo := signM_lt s b
        rw [hx] at k2 hsp hlo
        dsimp only at k2 hsp hlo
        have HX := Lib.hid hx
        clear hd hx
        go_wp2_with fail
        refine k2.mono ?_
        rintro e wb ⟨rfl, hBb, hsb⟩
        have HB := Lib.hid (HA.out.stp hBb hsb)
        clear k2 hBb hsb HA
        obtain ⟨o2, ho2⟩ : ∃ o2, peekM s xb = o2 := ⟨_, rfl⟩
        have k3 := next_is wb g s xb o2 ho2 HB.out.rdr (by omega)
        have HO2 := Lib.hid ho2
        clear ho2
        go_wp2_with fail
        refine k3.mono ?_
        rintro e wc ⟨rfl, hbc⟩
        have HCC := Lib.hid (HB.out.below hbc)
        clear k3 hbc HB
        go_upto_region 19 with fail
        go_cut [93] from 30 to 118 (fun v wx => v = .bool (rangeB s xb) ∧ Hid (Clr w wx g s xb (nodeC 0 S nilS)))
        case first =>
          have c0 := HCC.out.rdr.c0
          have c1 := HCC.out.rdr.c1
          rcases o2 with _ | e2
          · simp only [Option.getD_none, Option.isSome_none]
            go_big_quiet (fail)
            go_wp2
            go_meet
            exact ⟨by rw [rrange_false (by rw [HO2.out]; simp)], Lib.hid (HCC.out.below (bl_drewN (Below.refl _ _) _))⟩
          · simp only [Option.getD_some, Option.isSome_some]
            by_cases h45 : e2 = 45
            · subst h45
              have hwr : IntKind.i64.wrap ((xb.pos : Int) + 1) = (xb.pos : Int) + 1 := IntWalk.i64_in _ ⟨by omega, by omega⟩
              by_cases hin : xb.pos + 1 < s.size
              · have hi0 : (0 : Int) ≤ (xb.pos : Int) + 1 := by omega
                have hi1 : (xb.pos : Int) + 1 < (s.size : Int) := by omega
                have hnt : ((xb.pos : Int) + 1).toNat = xb.pos + 1 := by omega
                have hd1 : decide ((xb.pos : Int) + 1 < (s.size : Int)) = true := decide_eq_true hi1
                have hba := rbyte_at s (xb.pos + 1) hin
                have h9 : (((s[xb.pos + 1]'hin).toNat : Int) != 93) = !decide (byteM s (xb.pos + 1) = 93) := by
                  rw [hba]
                  by_cases h : byteM s (xb.pos + 1) = 93
                  · rw [h]; rfl
                  · rw [decide_eq_false h]; simp; omega
                clear hba
                go_big_quiet (fail)
                go_wp2
                go_meet
                exact ⟨by rw [rrange_at HO2.out, decide_eq_true hin, Bool.true_and], Lib.hid (HCC.out.below (bl_drewN (Below.refl _ _) _))⟩
              · have hd1 : decide ((xb.pos : Int) + 1 < (s.size : Int)) = false := decide_eq_false (by omega)
                go_big_quiet (fail)
                go_wp2
                go_meet
                exact ⟨by rw [rrange_at HO2.out, decide_eq_false hin, Bool.false_and], Lib.hid (HCC.out.below (bl_drewN (Below.refl _ _) _))⟩
            · have hb45 : ((e2 : Int) == 45) = false := by rw [beq_eq_false_iff_ne]; omega
              go_big_quiet (fail)
              go_wp2
              go_meet
              exact ⟨by rw [rrange_false (by rw [HO2.out]; simpa using h45)], Lib.hid (HCC.out.below (bl_drewN (Below.refl _ _) _))⟩
        case rest =>
        obtain ⟨rfl, HQ⟩ := hcut
        clear HCC HO2
        obtain ⟨R, hR⟩ : ∃ R, rangeB s xb = R := ⟨_, rfl⟩
        have HRB := Lib.hid hR
        rw [hR]
        clear hR
        go_upto_if 93 with fail
        go_cut [11] from 30 to 118 (fun v wx => ∃ (yb : Bs) (hi : Nat), v = .int .u8 (hi : Nat) ∧ hi < 256 ∧ b.pos < yb.pos ∧ yb.pos ≤ s.size + 1 ∧ Hid (rangeM s xb lo = (yb, hi)) ∧ Hid (Clr w wx g s yb (nodeC 0 S nilS)))
        case first =>
          cases R with
          | true =>
            have hin := rangeB_pos HRB.out
            have c1 := HQ.out.rdr.c1
            have f1 := there_free HQ.out.rdr.th 1 (by omega)
            go_upto_region 21 with fail
            refine wp_forget2 (fun W => Clr w W g s (stepM xb) (nodeC 0 S nilS)) HQ.out.step (fun w2 hw2 => ?_)
            have H2 := Lib.hid hw2
            clear hw2 c1 f1 HQ
            obtain ⟨yb, hi, hye⟩ : ∃ yb hi, signM s (stepM xb) = (yb, hi) := ⟨_, _, rfl⟩
            have k4 := rsign_is w2 g s (stepM xb) H2.out.rdr (by simp only [stepM]; omega)
            have hsp2 := signM_pos s (stepM xb) hin
            have hhi := signM_lt s (stepM xb)
            rw [hye] at k4 hsp2 hhi
            dsimp only at k4 hsp2 hhi
            simp only [stepM] at hsp2
            have HY := Lib.hid hye
            clear hye
            go_wp2_with fail
            refine k4.mono ?_
            rintro e wd ⟨rfl, hBd, hsd⟩
            have HDD := Lib.hid (H2.out.stp hBd hsd)
            clear k4 hBd hsd H2
            go_wp2
            go_meet
            exact ⟨yb, hi, rfl, hhi, by omega, hsp2.2, Lib.hid (by unfold rangeM; rw [if_pos HRB.out]; exact HY.out), HDD⟩
          | false =>
            go_wp2
            go_meet
            exact ⟨xb, lo, rfl, hlo, hsp.1, hsp.2, Lib.hid (by unfold rangeM; rw [if_neg (by rw [HRB.out]; decide)]), HQ⟩
        case rest =>
        obtain ⟨yb, hi, rfl, hhi, hyp1, hyp2, HY, HDD⟩ := hcut
        clear HQ HRB
        obtain ⟨B, hB⟩ : ∃ B, decide ((hi : Int) < (lo : Int)) = B := ⟨_, rfl⟩
        go_upto_if 105 with fail
        go_cut [] from 30 to 118 (fun wx => Hid (Clr w wx g s (if hi < lo then failM yb 2 else yb) (nodeC 0 S nilS)))
        case first =>
          cases B with
          | true =>
            have hlt : hi < lo := by have := of_decide_eq_true hB; omega
            have kq := KF.out _ _ HDD.out.rdr
            go_wp2_with fail
            refine kq.mono ?_
            rintro e w3 ⟨rfl, hB3, hs3⟩
            have H3 := Lib.hid (HDD.out.stp hB3 hs3)
            clear kq hB3 hs3
            go_wp2
            go_meet
            exact Lib.hid (by rw [if_pos hlt]; exact H3.out)
          | false =>
            have hlt : ¬ hi < lo := by have := of_decide_eq_false hB; omega
            go_wp2
            go_meet
            exact Lib.hid (by rw [if_neg hlt]; exact HDD.out)
        case rest =>
        clear hB HDD
        obtain ⟨zb, hz⟩ : ∃ zb, (if hi < lo then failM yb 2 else yb) = zb := ⟨_, rfl⟩
        rw [hz] at hcut
        have hzp : zb.pos = yb.pos := by rw [← hz]; split <;> simp only [failM_pos]
        have HZ := Lib.hid hz
        have HG := hcut
        clear hz hcut
        go_wp2
        go_loopw [12] (fun v wr => ∃ k : Nat, v = .int .i64 (k : Nat) ∧ lo ≤ k ∧ (k ≤ hi + 1 ∨ k = lo) ∧ Hid (Clr w wr g s zb (nodeC 0 (addU S lo k) nilS))) (fun v _ => 257 - (intOf v).toNat)
        case atStart => exact ⟨lo, rfl, Nat.le_refl _, .inr rfl, Lib.hid (by rw [addU_start]; exact HG.out)⟩
        case round =>
          clear HG
          obtain ⟨k, rfl, hk1, hk2, HT⟩ := hrel
          by_cases hk : k ≤ hi
          · have hk256 : k < 256 := by omega
            have n1 := HT.out.nd.cell (nodeC_set 0 (addU S lo k) nilS k hk256)
            have f1 := HT.out.nd.free (j := 1 + k) (by omega)
            have hkh : (k : Int) ≤ (hi : Int) := by omega
            have hki0 : (0 : Int) ≤ (k : Int) := by omega
            have hki1 : (k : Int) < 256 := by omega
            go_wp2
            go_roundw
            case rel => exact ⟨k + 1, by go_num, by omega, by omega, Lib.hid (by
              have := HT.out.put (1 + k) (.bool true) (by omega)
              rw [nodeC_setB 0 _ _ k hk256, addU_succ hk1] at this
              exact this)⟩
            case measure => (simp [intOf]; try omega)
          · have hkh : ¬ (k : Int) ≤ (hi : Int) := by omega
            have hkh2 : (hi : Int) < (k : Int) := by omega
            go_wp2
            go_roundw
            case rel =>
              refine ⟨n - 1, i + 1, zb, addS S lo hi, by go_num, ?_, by omega, by omega, by omega, ?_⟩
              · have he := HE.out
                rw [rloop_on HO.out HD.out HX.out HY.out] at he
                dsimp only at he
                rw [HZ.out] at he
                have hn1 : n - 1 + 1 = n := by omega
                rw [hn1]
                exact he
              · rw [← addU_end (show hi < k by omega) hk2]; exact HT.out
            case measure =>
              rw [HT.out.rdr.posAt, HC.out.rdr.posAt]
              omega
end Go.Proofs.Ytipnhpfpppblhaa

/- The reference's tree: kids under way; what a function of the reader gives back. -/
namespace Go.Proofs.Ytipnhpfpppblhaa
open Go.RowKit
structure Un (w0 w : World) (kv : Value) (md : Nat) (l : List (List Value)) (a : Re) (ok : Prop) : Prop where
  own : w.ownsRow (w0.heap.size + 2) 134 258 kv l.length l.flatten
  each : ∀ x ∈ l, x.length = 258 ∧ ∀ y ∈ x, y.oneCell' = true
  tree : ok → NA w (fun q => w0.heap.size + 2 ≤ q ∧ q < w.heap.size ∧ kv.ownBlock ≠ some q) md l a
theorem ownsRow_keep {w w' : World} {base : Nat} {e : TypeId} {size n : Nat} {v : Value} {xs : List Value} (h : w.ownsRow base e size v n xs) (hk : ∀ q, v.ownBlock = some q → w'.heap[q]? = w.heap[q]?) : w'.ownsRow base e size v n xs := by
  obtain ⟨h1, h2 | ⟨g, cap, cur, rfl, hb, hg, hr⟩⟩ := h
  · exact ⟨h1, .inl h2⟩
  · exact ⟨h1, .inr ⟨g, cap, cur, rfl, hb, (hk g rfl).trans hg, hr⟩⟩
theorem ownsRow_at {w : World} {base : Nat} {e : TypeId} {size n : Nat} {v : Value} {xs : List Value} (h : w.ownsRow base e size v n xs) : ∀ q, v.ownBlock = some q → base ≤ q ∧ q < w.heap.size := by
  obtain ⟨h1, ⟨rfl, _⟩ | ⟨g, cap, cur, rfl, hb, hg, hr⟩⟩ := h
  · intro q hq; cases hq
  · intro q hq
    cases hq
    exact ⟨hb, (Array.getElem?_eq_some_iff.1 hg).1⟩
theorem ownsRow_one {w : World} {base : Nat} {e : TypeId} {size n : Nat} {v : Value} {xs : List Value} (h : w.ownsRow base e size v n xs) : v.oneCell' = true := by
  obtain ⟨h1, ⟨rfl, _⟩ | ⟨g, cap, cur, rfl, hb, hg, hr⟩⟩ := h <;> rfl
theorem Un.nil (w0 w : World) {md : Nat} {a : Re} (h : ∀ P, NA w P md [] a) (ok : Prop) : Un w0 w nilS md [] a ok := ⟨World.ownsRow_nil _ _ _ _, fun x hx => (by cases hx), fun _ => h _⟩
theorem Un.keep {w0 w w' : World} {kv : Value} {md : Nat} {l : List (List Value)} {a : Re} {ok : Prop} (h : Un w0 w kv md l a ok) (hs : w.heap.size ≤ w'.heap.size) (hk : ∀ q, w0.heap.size + 2 ≤ q → q < w.heap.size → w'.heap[q]? = w.heap[q]?) : Un w0 w' kv md l a ok :=
  ⟨ownsRow_keep h.own fun q hq => (let ⟨h1, h2⟩ := ownsRow_at h.own q hq; hk q h1 h2), h.each, fun o => ((h.tree o).keep hs fun q hq hlt => hk q hq.1 hlt).mono fun _ hq => ⟨hq.1, Nat.lt_of_lt_of_le hq.2.1 hs, hq.2.2⟩⟩
theorem Un.kr {g : Nat} {w0 w w' : World} {kv : Value} {md : Nat} {l : List (List Value)} {a : Re} {ok : Prop} (h : Un w0 w kv md l a ok) (hk : Kr g w w') (hg : g < w0.heap.size) : Un w0 w' kv md l a ok :=
  h.keep hk.size fun q h1 h2 => hk.block q h2 (by omega)
theorem Un.below {w0 w w' : World} {kv : Value} {md : Nat} {l : List (List Value)} {a : Re} {ok : Prop} (h : Un w0 w kv md l a ok) (hb : Below w.heap.size w w') : Un w0 w' kv md l a ok :=
  h.keep hb.size fun q _ h2 => hb.block q h2
theorem Un.put {w0 w : World} {kv : Value} {md : Nat} {l : List (List Value)} {a : Re} {ok : Prop} (h : Un w0 w kv md l a ok) (p i : Nat) (v : Value) (hp : p < w0.heap.size + 2) : Un w0 (w.setCell ⟨p, i, none⟩ v) kv md l a ok :=
  h.keep (by simp) fun q h1 _ => Below.heap_setCell w ⟨p, i, none⟩ v q (by show q ≠ p; omega)
theorem Un.puts {w0 w : World} {kv : Value} {md : Nat} {l : List (List Value)} {a : Re} {ok : Prop} (h : Un w0 w kv md l a ok) (p i : Nat) (vs : List Value) (hp : p < w0.heap.size + 2) : Un w0 (w.setCells p i vs) kv md l a ok :=
  h.keep (by rw [size_setCells]; exact Nat.le_refl _) fun q h1 _ => heap_setCells w p q (by omega) vs i
theorem Un.kids {w0 w : World} {kv : Value} {md : Nat} {l : List (List Value)} {a : Re} {ok : Prop} (h : Un w0 w kv md l a ok) (hl : l.length ≤ 1000000) : KidsAt w (fun q => w0.heap.size ≤ q ∧ q < w.heap.size) kv l :=
  ⟨RdAt.own h.own, fun x hx => (h.each x hx).1, fun q hq => (let ⟨h1, h2⟩ := ownsRow_at h.own q hq; ⟨by omega, h2⟩), hl⟩
theorem Un.all {w0 w : World} {kv : Value} {md : Nat} {l : List (List Value)} {a : Re} {ok : Prop} (h : Un w0 w kv md l a ok) (o : ok) : NA w (fun q => w0.heap.size ≤ q ∧ q < w.heap.size) md l a :=
  (h.tree o).mono fun q hq => ⟨by omega, hq.2.1⟩
theorem Un.app {w0 w w' : World} {kv kv' : Value} {md : Nat} {l : List (List Value)} {a b c : Re} {ok ok' : Prop} {cs : List Value} (h : Un w0 w kv md l a ok) (hown : w'.ownsRow (w0.heap.size + 2) 134 258 kv' (l.length + 1) (l.flatten ++ cs))
    (hg : w.grownBy w' kv.ownBlock) (ho : kv'.ownBlock = kv.ownBlock ∨ kv'.ownBlock = some w.heap.size) (hcs : cs.length = 258 ∧ ∀ y ∈ cs, y.oneCell' = true) (hk : ok' → ok)
    (ht : ok' → NA w (fun q => w0.heap.size + 2 ≤ q ∧ q < w.heap.size ∧ kv.ownBlock ≠ some q) 0 [cs] b) (hf : ∀ (W : World) (P : Nat → Prop), NA W P md l a → NA W P 0 [cs] b → NA W P md (l ++ [cs]) c) : Un w0 w' kv' md (l ++ [cs]) c ok' := by
  have hsz : w.heap.size ≤ w'.heap.size := hg.size
  have hkeep : ∀ q, (w0.heap.size + 2 ≤ q ∧ q < w.heap.size ∧ kv.ownBlock ≠ some q) → q < w.heap.size → w'.heap[q]? = w.heap[q]? := fun q hq hlt => hg.block q hlt (fun e => hq.2.2 e.symm)
  refine ⟨by rw [List.length_append, List.flatten_append, List.flatten_singleton]; exact hown, fun x hx => ?_, fun o => ?_⟩
  · rcases List.mem_append.1 hx with hx | hx
    · exact h.each x hx
    · rw [List.mem_singleton.1 hx]; exact hcs
  · refine NA.mono (hf w' _ ((h.tree (hk o)).keep hsz hkeep) ((ht o).keep hsz hkeep)) ?_
    rintro q ⟨h1, h2, h3⟩
    refine ⟨h1, by omega, fun e => ?_⟩
    rcases ho with ho | ho
    · rw [ho] at e; exact h3 e
    · rw [ho] at e; cases e; omega
theorem RdrAt.congr {w : World} {g : Nat} {s : ByteArray} {b c : Bs} (h : RdrAt w g s b) (hp : b.pos = c.pos) (he : b.err = c.err) : RdrAt w g s c := ⟨h.c0, by rw [← hp]; exact h.c1, by rw [← he]; exact h.c2, h.th, h.lt⟩
theorem Clr.congr {w0 w : World} {g : Nat} {s : ByteArray} {b c : Bs} {cs : List Value} (h : Clr w0 w g s b cs) (hp : b.pos = c.pos) (he : b.err = c.err) : Clr w0 w g s c cs := ⟨h.rdr.congr hp he, h.nd, h.res, h.kr, h.gl⟩
theorem peek_congr {s : ByteArray} {b c : Bs} (he : b.err = c.err) (hp : b.err = 0 → b.pos = c.pos) : peekM s b = peekM s c := by
  unfold peekM
  by_cases h : b.err = 0
  · have h2 := hp h
    rw [he, h2]
  · rw [if_neg (fun x => h x.1), if_neg (fun x => h (he.trans x.1))]
theorem Clr.grown {w0 w w' : World} {g : Nat} {s : ByteArray} {b : Bs} {cs : List Value} {row : Option Nat} (h : Clr w0 w g s b cs) (hg : w.grownBy w' row) (hr : ∀ q, row = some q → w0.heap.size + 2 ≤ q) : Clr w0 w' g s b cs := by
  have hk : ∀ k, k < w.heap.size → k < w0.heap.size + 2 → w'.heap[k]? = w.heap[k]? := fun k hk hk2 => hg.block k hk (fun e => by have := hr k e.symm; omega)
  have hsz : w.heap.size ≤ w'.heap.size := hg.size
  have hlt := h.nd.lt
  have hgl := h.gl
  exact ⟨h.rdr.kept hsz (hk g h.rdr.lt (by omega)), h.nd.keep hsz (hk _ hlt (by omega)), there_kept h.res (hk _ (by omega) (by omega)), Keep.grown h.kr hg (fun k e => .inr (by have := hr k e; omega)), h.gl⟩
theorem Un.ok {w0 w : World} {kv : Value} {md : Nat} {l : List (List Value)} {a : Re} {ok ok' : Prop} (h : Un w0 w kv md l a ok) (o : ok' → ok) : Un w0 w kv md l a ok' := ⟨h.own, h.each, fun x => h.tree (o x)⟩
structure Back (w w' : World) (g : Nat) (s : ByteArray) (d : Nat) (r : Bs × (Nat × Nat)) (a : Re) (cs : List Value) (b' : Bs) : Prop where
  len : cs.length = 258
  one : ∀ y ∈ cs, y.oneCell' = true
  rdr : RdrAt w' g s b'
  err : b'.err = r.1.err
  pos : b'.pos ≤ s.size + 12 - d
  tree : b'.err = 0 → b'.pos = r.1.pos ∧ NA w' (fun q => w.heap.size ≤ q ∧ q < w'.heap.size) 0 [cs] a
  kr : Kr g w w'
def NdK (f : FuncId) (md : Md) (n : Nat) : Prop := ∀ (m : Nat), m ≤ n → ∀ (w : World) (g : Nat) (s : ByteArray) (d : Nat) (b : Bs), RdrAt w g s b → b.err = 0 → d ≤ 8 → b.pos ≤ s.size + 12 - d → (md = .atom → b.pos < s.size ∧ byteM s b.pos ≠ 124 ∧ byteM s b.pos ≠ 41) → s.size ≤ 100 → fuelM s b md ≤ m →
  Calls Try.prog f #[.pointer (some ⟨g, 0, none⟩), .int .i64 (d : Nat)] w fun e w' => ∃ cs b', e = .returned (.agg cs.toArray) ∧ Back w w' g s d (runM s m md d b) (reM s m md .no d b) cs b'
theorem fill_node (cs : List Value) (hl : cs.length = 258) (z : Array Value) (hz : z.size = 258) : Instr.fill (fun i => some (i * 258, 258)) z [(0, .agg cs.toArray)] = some cs.toArray := by
  obtain ⟨r, hr, hsz, hk⟩ := Great.fill_dense (s := 258) (by decide) [.agg cs.toArray] 0 z (fun v hv => by rw [List.mem_singleton.1 hv]; show cs.toArray.size = 258; simpa using hl) (by simp [hz])
  have e : r = cs.toArray := by
    apply Array.ext_getElem?
    intro k
    rw [hk k]
    by_cases h : k < 258
    · rw [if_pos ⟨by omega, by simpa using h⟩, show k / 258 - 0 = 0 by omega, Nat.mod_eq_of_lt h]
      rfl
    · rw [if_neg (by simp; omega), Array.getElem?_eq_none (by omega), Array.getElem?_eq_none (by simp; omega)]
  rw [e] at hr
  exact hr
theorem fill_one (a : Act) (x : Operand) (cs : List Value) (hl : cs.length = 258) (hx : a.eval x = .agg cs.toArray) : Instr.fill (fun i => some (i * 258, 258)) ((Array.range (1 * 258)).map ((Value.agg (zeroN 0)).cells[· % (Value.agg (zeroN 0)).cells.size]!)) ((#[(0, x)] : Array (Nat × Operand)).map fun (i, x) => (i, a.eval x)).toList = some cs.toArray := by
  simp only [List.map_toArray, List.map_cons, List.map_nil, hx]
  exact fill_node cs hl _ (by rw [Array.size_map, Array.size_range])
theorem built_kids (a : Act) (x y : Operand) (k : Int) (ad : Option Addr) (n c : Nat) (hx : a.eval x = .int .i64 k) (hy : a.eval y = .slice ad n c) : Try.prog.built 134 ((#[(0, x), (2, y)] : Array (Nat × Operand)).map fun (i, x) => (i, a.eval x)).toList = some (nodeC k noB (.slice ad n c)).toArray := by
  simp only [List.map_toArray, List.map_cons, List.map_nil, hx, hy]
  exact node_built3 k ad n c
theorem info_node : (Try.prog.info? 134).map (fun i => (i.zero, i.size, i.bytes)) = some (some (.agg (zeroN 0)), 258, 288) := node_zero
theorem rd_node {w : World} {cs : List Value} (hl : cs.length = 258) (t : TypeId) : RdAt (w.alloc (.cells cs.toArray t)) (.slice (some ⟨w.heap.size, 0, none⟩) 1 1) 1 258 cs := by
  refine ⟨by rw [hl], .inr ⟨_, 1, rfl, Nat.le_refl _, fun _ => ⟨w.heap.size, 0, rfl, by rw [World.size_alloc]; omega, fun j x hx => ?_⟩⟩⟩
  rw [Nat.zero_add]
  exact (box_cells (Below.refl _ (w.alloc (.cells cs.toArray t)))).1 j x (by simpa using hx)
end Go.Proofs.Ytipnhpfpppblhaa

/- The reference's either: a contract (with row's for less fuel). -/
namespace Go.Proofs.Ytipnhpfpppblhaa
open Go.RowKit
def ELoop (w0 : World) (g : Nat) (s : ByteArray) (d N : Nat) (r : Bs × (Nat × Nat)) (a : Re) (w : World) : Prop :=
  ∃ (m : Nat) (b : Bs) (p : Nat × Nat) (l : List (List Value)) (acc : Re) (kv : Value), m ≤ N ∧ b.err = 0 ∧ b.pos ≤ s.size + 12 - d ∧ fuelM s b (.alts p) ≤ m ∧ l.length ≤ b.pos ∧
    Hid (runM s m (.alts p) d b = r) ∧ Hid (reM s m (.alts p) acc d b = a) ∧ Hid (Clr w0 w g s b (nodeC 1 noB kv)) ∧ Hid (Un w0 w kv 1 l acc True)
set_option maxHeartbeats 12800000 in
set_option maxRecDepth 100000 in
theorem either_is (n : Nat) (hrow : NdK 109 .row n) : NdK 97 .either (n + 1) := by
  intro m hm w g s d b h he hd hp _ hs hf
  simp only [fuelM] at hf
  obtain ⟨m, rfl⟩ : ∃ m', m = m' + 2 := ⟨m - 2, by omega⟩
  obtain ⟨r, hr⟩ : ∃ r, runM s (m + 1) (.alts (b.sts.length, b.sts.length + 1)) d (nodeM (nodeM b)) = r := ⟨_, rfl⟩
  obtain ⟨a, ha⟩ : ∃ a, reM s (m + 1) (.alts (b.sts.length, b.sts.length + 1)) .no d (nodeM (nodeM b)) = a := ⟨_, rfl⟩
  have e1 : runM s (m + 2) .either d b = r := by rw [runM]; exact hr
  have e2 : reM s (m + 2) .either .no d b = a := by rw [reM]; exact ha
  rw [e1, e2]
  have HR0 := Lib.hid hr
  have HA0 := Lib.hid ha
  obtain ⟨b0, hb0⟩ : ∃ b0, nodeM (nodeM b) = b0 := ⟨_, rfl⟩
  have hbp : b0.pos = b.pos := by rw [← hb0]; rfl
  have hbe : b0.err = 0 := by rw [← hb0]; exact he
  have h0 : RdrAt w g s b0 := h.congr hbp.symm (by rw [hbe]; exact he)
  rw [hb0] at HR0 HA0
  have hc := Clr.new h0 1 134
  have HC0 := Lib.hid hc
  have HROW := Lib.hid hrow
  obtain ⟨i0, hi, hz0, hz1, hz2⟩ := info_parts info_node
  clear hrow hr ha e1 e2 hb0 hc h h0
  go_enter Try.func97, Try.ntmps97
  go_wp2_with (first
    | (with_reducible refine wpList_allocN rfl rfl _ rfl w.heap.size rfl ?_)
    | (with_reducible refine wpList_allocN rfl rfl _ rfl (w.heap.size + 1) (World.size_alloc _ _) ?_)
    | ((with_reducible refine wpList_buildN rfl _ rfl _ rfl (zeroN 1) ?hf ?_); (case hf => exact node_built1))
    | ((with_reducible refine wpList_storeN rfl _ _ rfl _ rfl (w.heap.size + 1) 0 (nodeC 1 noB nilS) ?hx ?hy ?ht (nodeC_len _ _ _) (oneN _ _) ?_); (case hx => rfl); (case hy => rfl); (case ht => exact (by have := there_new (w.alloc (.cells (zeroN 0) 134)) 0 134; rwa [World.size_alloc] at this))))
  refine wp_forget2 (fun W => Clr w W g s b0 (nodeC 1 noB nilS)) HC0.out (fun w1 hw1 => ?_)
  have H1 := Lib.hid hw1
  clear hw1 HC0
  simp only [Act.put, List.setIfInBounds_toArray, List.set_cons_zero, List.set_cons_succ]
  go_loopw [] (fun wr => ELoop w g s d (m + 1) r a wr) (fun wr => s.size + 15 - rposAt wr g)
  case atStart => exact ⟨m + 1, b0, _, [], .no, nilS, Nat.le_refl _, hbe, by omega, by simp only [fuelM]; omega, by simp, HR0, HA0, H1, Lib.hid (Un.nil w w1 (fun P => .a0) True)⟩
  case round =>
    clear H1 HR0 HA0 hbp hbe b0
    obtain ⟨k, b, p, l, acc, kv, hk, he, hp, hf, hl, HR, HA, HC, HU⟩ := hrel
    simp only [fuelM] at hf
    obtain ⟨k, rfl⟩ : ∃ k', k = k' + 1 := ⟨k - 1, by omega⟩
    have ok := runM_ok s k .row d b hd hp (fun h => by cases h) trivial (by simp only [fuelM]; omega)
    obtain ⟨g1, _, _, q3, _⟩ := ok
    have hgp := g1.pos
    clear g1
    have HR' := HR.out
    have HA' := HA.out
    rw [runM] at HR'
    rw [reM] at HA'
    (try dsimp only at HR' HA')
    have hkr := fun W (h : RdrAt W g s b) => HROW.out k (by omega) W g s d b h he hd hp (fun h => by cases h) hs (by simp only [fuelM]; omega)
    obtain ⟨rr, hrr⟩ : ∃ rr, runM s k .row d b = rr := ⟨_, rfl⟩
    obtain ⟨ra, hra⟩ : ∃ ra, reM s k .row .no d b = ra := ⟨_, rfl⟩
    rw [hrr] at HR' HA' hkr q3 hgp
    rw [hra] at HA' hkr
    obtain ⟨b2, hb2⟩ : ∃ b2, freeM (freeM rr.1 p.1 rr.2.1) rr.2.2 p.2 = b2 := ⟨_, rfl⟩
    have hp2 : b2.pos = rr.1.pos := by rw [← hb2]; rfl
    have he2 : b2.err = rr.1.err := by rw [← hb2]; rfl
    rw [hb2] at HR' HA'
    have HR1 := Lib.hid HR'
    have HA1 := Lib.hid HA'
    have KR := Lib.hid hkr
    clear HR' HA' hrr hra hb2 hkr HR HA
    have hl60 : l.length ≤ 200 := by omega
    have hRP : Hid (rposAt wr g = b.pos) := Lib.hid HC.out.rdr.posAt
    go_upto_region 2 with fail
    refine wp_region_heldS 8 (S := (fun W => W.cell? ⟨w.heap.size + 1, 257, none⟩ = some kv)) (by kernel_rfl) (HC.out.nd.cell (nodeC_kids _ _ _)) (fun hHeld => ?_)
    refine heldS_take (i := 0) (v := ?_) rfl rfl (by kernel_rfl) (by kernel_rfl) (by kernel_rfl) (by kernel_rfl) (by kernel_rfl) (fun _ _ _ h => h) (by rfl) hHeld ?_ ?_
    rotate_left
    · rintro wh hS
      go_simp
      (try with_reducible rfl)
    simp only [Act.put, List.setIfInBounds_toArray, List.set_cons_zero, List.set_cons_succ]
    refine heldS_take (i := 1) (v := ?_) rfl rfl (by kernel_rfl) (by kernel_rfl) (by kernel_rfl) (by kernel_rfl) (by kernel_rfl) (fun _ _ _ h => h) (by rfl) hHeld ?_ ?_
    rotate_left
    · rintro wh hS
      go_simp
      (try with_reducible rfl)
    simp only [Act.put, List.setIfInBounds_toArray, List.set_cons_zero, List.set_cons_succ]
    refine heldS_take (i := 2) (v := ?_) rfl rfl (by kernel_rfl) (by kernel_rfl) (by kernel_rfl) (by kernel_rfl) (by kernel_rfl) (fun _ _ _ h => h) (by rfl) hHeld ?_ ?_
    rotate_left
    · rintro wh hS
      go_simp
      (try with_reducible rfl)
    simp only [Act.put, List.setIfInBounds_toArray, List.set_cons_zero, List.set_cons_succ]
    refine heldS_take (i := 3) (v := ?_) rfl rfl (by kernel_rfl) (by kernel_rfl) (by kernel_rfl) (by kernel_rfl) (by kernel_rfl) (fun _ _ _ h => h) (by rfl) hHeld ?_ ?_
    rotate_left
    · rintro wh hS
      go_simp
      (try with_reducible rfl)
    simp only [Act.put, List.setIfInBounds_toArray, List.set_cons_zero, List.set_cons_succ]
    refine heldS_step (i := 4) rfl (by kernel_rfl) (fun K hK => ?_)
    go_simp; refine (KR.out _ (HC.out.below (Below.refl _ _).drew).rdr).mono ?_; rintro e w4 ⟨cs, b', rfl, hbk⟩; have hc4 := (HC.out.below (Below.refl _ _).drew).stp hbk.rdr hbk.kr; have hu4 := (HU.out.below (Below.refl _ _).drew).kr hbk.kr HC.out.gl; have HBK := Lib.hid hbk; have HC4 := Lib.hid hc4; have HU4 := Lib.hid hu4; clear hbk hc4 hu4
    refine hK.out _ _ (HC4.out.nd.cell (nodeC_kids _ _ _)) (fun hHeld => ?_)
    clear hK K
    (try simp only [Act.put, List.setIfInBounds_toArray])
    have h5 := HC4.out.below (alloc_below w4 (.cells cs.toArray 134))
    refine heldS_step (i := 5) rfl (by kernel_rfl) (fun K hK => ?_)
    rw [if_pos (by rfl)]; refine wp_buildSlice 132 134 1 _ rfl cs.toArray i0 (.agg (zeroN 0)) Try.underlying132 hi hz0 (by rw [hz1]; decide) (by rw [hz1]; decide) (by rw [hz1]; exact fill_one _ _ cs HBK.out.len rfl) ?_
    refine hK.out _ _ (h5.nd.cell (nodeC_kids _ _ _)) (fun hHeld => ?_)
    clear hK K
    (try simp only [Act.put, List.setIfInBounds_toArray])
    have HC5 := Lib.hid h5
    have HU5 := Lib.hid (HU4.out.below (alloc_below w4 (.cells cs.toArray 134)))
    have HRD := Lib.hid (rd_node (w := w4) HBK.out.len 134)
    have HT5 : Hid (b'.err = 0 → NA (w4.alloc (.cells cs.toArray 134)) (fun q => w.heap.size + 2 ≤ q ∧ q < (w4.alloc (.cells cs.toArray 134)).heap.size ∧ kv.ownBlock ≠ some q) 0 [cs] ra) := Lib.hid (fun h0 => (((HBK.out.tree h0).2).later (alloc_below w4 (.cells cs.toArray 134))).mono (by
      rintro q ⟨h1, h2⟩
      have hlt := HC.out.nd.lt
      have h1 : wr.heap.size ≤ q := h1
      refine ⟨by omega, by rw [World.size_alloc]; omega, fun e => ?_⟩
      have := (ownsRow_at HU.out.own q e).2
      omega))
    have HB5 : Hid (w.heap.size + 2 ≤ (w4.alloc (.cells cs.toArray 134)).heap.size) := Lib.hid (by have := HC5.out.nd.lt; omega)
    clear h5
    generalize (w4.alloc (.cells cs.toArray 134)) = w5 at *
    refine heldS_step (i := 6) rfl (by kernel_rfl) (fun K hK => ?_)
    refine step_append_rd rfl (.tmp 10) (.tmp 14) 132 rfl (w.heap.size + 2) 134 i0 (.agg (zeroN 0)) 258 288 Try.underlying132 hi hz0 hz1 hz2 (zeroN_size 0) (by decide) kv l.length l.flatten rfl HU5.out.own _ 1 cs rfl HRD.out HBK.out.one (by unfold maxLen; omega) (by omega) HB5.out ?_; intro kv' w6 hown hgrow hor; obtain ⟨ka, kc, rfl, -, -⟩ := RdAt.shape (RdAt.own hown); have hc6 := HC5.out.grown hgrow (fun q hq => (ownsRow_at HU5.out.own q hq).1); have f6 := hc6.nd.free (j := 257) (by omega); have HC6 := Lib.hid hc6; clear hc6; have HOWN := Lib.hid hown; have HGROW := Lib.hid hgrow; have HOR := Lib.hid hor; clear hown hgrow hor
    refine hK.out _ _ (HC6.out.nd.cell (nodeC_kids _ _ _)) (fun hHeld => ?_)
    clear hK K
    (try simp only [Act.put])
    refine heldS_step (i := 7) rfl (by kernel_rfl) (fun K hK => ?_)
    go_simp
    refine hK.out _ _ (HC6.out.nd.cell (nodeC_kids _ _ _)) (fun hHeld => ?_)
    clear hK K
    (try simp only [Act.put, List.setIfInBounds_toArray])
    refine heldS_last (i := 8) rfl (by kernel_rfl) (by kernel_rfl) (fun K hK => ?_)
    go_simp
    refine hK.out _ _ ?_
    clear hK K
    (try simp only [Act.put, List.setIfInBounds_toArray])
    refine wpAnyEnd_done (by kernel_rfl) ?_ _
    go_upto_region 3 with fail
    refine wp_forget2 (fun W => Clr w W g s b' (nodeC 1 noB (.slice ka (l.length + 1) kc)) ∧ Un w W (.slice ka (l.length + 1) kc) 1 (l ++ [cs]) (.alt acc ra) (b'.err = 0)) ⟨by
        have := HC6.out.put 257 (.slice ka (l.length + 1) kc) (by omega)
        rwa [nodeC_setK] at this, (HU5.out.app HOWN.out HGROW.out HOR.out ⟨HBK.out.len, HBK.out.one⟩ (fun _ => trivial) HT5.out (fun W P h1 h2 => .a1 h1 h2)).put _ _ _ (by omega)⟩ (fun w7 hw7 => ?_)
    have HC7 := Lib.hid hw7.1
    have HU7 := Lib.hid hw7.2
    clear hw7 HOWN HGROW HOR HC6 HU5 HC5 HT5 HB5 HRD HC HU HC4 HU4 KR f6 hHeld
    have hpk := peek_congr (s := s) (b := b') (c := b2) (HBK.out.err.trans he2.symm) (fun h0 => ((HBK.out.tree h0).1).trans hp2.symm)
    have hbp := HBK.out.pos
    have HPE : Hid (b'.err = b2.err ∧ (b'.err = 0 → b'.pos = b2.pos)) := Lib.hid ⟨HBK.out.err.trans he2.symm, fun h0 => ((HBK.out.tree h0).1).trans hp2.symm⟩
    obtain ⟨o, ho⟩ : ∃ o, peekM s b' = o := ⟨_, rfl⟩
    have k1 := next_is w7 g s b' o ho HC7.out.rdr (by omega)
    have HPK := Lib.hid (hpk.symm.trans ho)
    have HO := Lib.hid ho
    clear hpk ho HBK
    go_wp2_with fail
    refine k1.mono ?_
    rintro e w8 ⟨rfl, hb8⟩
    have HC8 := Lib.hid (HC7.out.below hb8)
    have HU8 := Lib.hid (HU7.out.below hb8)
    clear k1 hb8 HC7 HU7
    have HEND : Hid (peekM s b2 ≠ some 124 → ∃ cs' b'', Value.agg (nodeC 1 noB (.slice ka (l.length + 1) kc)).toArray = .agg cs'.toArray ∧ Back w (w8.setCells w.heap.size 0 (nodeC 1 noB (.slice ka (l.length + 1) kc))) g s d r a cs' b'') := Lib.hid (fun hne => by
      have h1 := HR1.out
      have h2 := HA1.out
      rw [if_neg hne] at h1 h2
      subst h1 h2
      have hu := HU8.out.puts w.heap.size 0 (nodeC 1 noB (.slice ka (l.length + 1) kc)) (by omega)
      exact ⟨_, b', rfl, nodeC_len _ _ _, nodeC_one _ _ _ (ownsRow_one hu.own), (HC8.out.done _).1, HPE.out.1, hbp, fun h0 => ⟨HPE.out.2 h0, .alts (hu.all h0) (hu.kids (by rw [List.length_append, List.length_singleton]; omega))⟩, (HC8.out.done _).2⟩)
    have HONE : Hid (∀ y ∈ nodeC 1 noB (.slice ka (l.length + 1) kc), y.oneCell' = true) := Lib.hid (nodeC_one _ _ _ (ownsRow_one HU8.out.own))
    rcases o with _ | c
    · go_wp2_with (first
      | ((with_reducible refine wpList_loadN rfl _ rfl _ rfl (w.heap.size + 1) 0 ?hx (nodeC 1 noB (.slice ka (l.length + 1) kc)) ?hc (nodeC_len _ _ _) ?_); (case hx => rfl); (case hc => exact HC8.out.nd.at_))
      | ((with_reducible refine wpList_storeN rfl _ _ rfl _ rfl w.heap.size 0 (nodeC 1 noB (.slice ka (l.length + 1) kc)) ?hx ?hy ?ht (nodeC_len _ _ _) HONE.out ?_); (case hx => rfl); (case hy => rfl); (case ht => exact HC8.out.res)))
      refine bodyPost_ret (results_agg1 rfl _ _ w.heap.size (nodeC 1 noB (.slice ka (l.length + 1) kc)) (.struct _) rfl (World.rangeAt_setCells_same _ _ _ _ (by rw [nodeC_len]; exact HC8.out.res)) Try.underlying134 rfl (by rw [nodeC_len]; exact node_size)) rfl ?_
      obtain ⟨cs', b'', e1, e2⟩ := HEND.out (by rw [HPK.out]; simp)
      exact ⟨cs', b'', by rw [e1], e2⟩
    · by_cases hc : c = 124
      · subst hc
        have c1 := HC8.out.rdr.c1
        have f1 := there_free HC8.out.rdr.th 1 (by omega)
        obtain ⟨hb0, hbs, -⟩ := peekM_some HO.out
        have hq1 : b'.pos ≤ b2.pos := Nat.le_of_eq (HPE.out.2 hb0)
        have hq2 : b2.pos ≤ b'.pos := Nat.le_of_eq (HPE.out.2 hb0).symm
        have hq3 : b.pos ≤ b2.pos := by omega
        clear hp2 he2
        go_wp2
        go_roundw
        case rel =>
          refine ⟨k, stepM b2, p, l ++ [cs], .alt acc ra, (.slice ka (l.length + 1) kc), by omega, ?_, ?_, ?_, ?_, ?_, ?_, ?_, ?_⟩
          · show b2.err = 0
            rw [← HPE.out.1]; exact hb0
          · simp only [stepM]; omega
          · simp only [fuelM, stepM]; omega
          · rw [List.length_append]; simp only [stepM, List.length_singleton]; omega
          · have h1 := HR1.out
            rw [if_pos HPK.out] at h1
            exact Lib.hid h1
          · have h2 := HA1.out
            rw [if_pos HPK.out] at h2
            exact Lib.hid h2
          · exact Lib.hid (HC8.out.step.congr (by simp only [stepM]; omega) (by show b'.err = b2.err; exact HPE.out.1))
          · exact Lib.hid ((HU8.out.kr (Kr.set g w8 1 _) HC8.out.gl).ok (fun _ => hb0))
        case measure =>
          rw [HC8.out.step.rdr.posAt, hRP.out]
          simp only [stepM]
          omega
      · have hcb : ((c : Int) != 124) = true := by simp; omega
        go_wp2_with (first
      | ((with_reducible refine wpList_loadN rfl _ rfl _ rfl (w.heap.size + 1) 0 ?hx (nodeC 1 noB (.slice ka (l.length + 1) kc)) ?hc (nodeC_len _ _ _) ?_); (case hx => rfl); (case hc => exact HC8.out.nd.at_))
      | ((with_reducible refine wpList_storeN rfl _ _ rfl _ rfl w.heap.size 0 (nodeC 1 noB (.slice ka (l.length + 1) kc)) ?hx ?hy ?ht (nodeC_len _ _ _) HONE.out ?_); (case hx => rfl); (case hy => rfl); (case ht => exact HC8.out.res)))
        refine bodyPost_ret (results_agg1 rfl _ _ w.heap.size (nodeC 1 noB (.slice ka (l.length + 1) kc)) (.struct _) rfl (World.rangeAt_setCells_same _ _ _ _ (by rw [nodeC_len]; exact HC8.out.res)) Try.underlying134 rfl (by rw [nodeC_len]; exact node_size)) rfl ?_
        obtain ⟨cs', b'', e1, e2⟩ := HEND.out (by rw [HPK.out]; simpa using hc)
        exact ⟨cs', b'', by rw [e1], e2⟩
end Go.Proofs.Ytipnhpfpppblhaa

/- The reference's row: a contract (with atom's for less fuel). -/
namespace Go.Proofs.Ytipnhpfpppblhaa
open Go.RowKit
theorem rtimes_no {s : ByteArray} {b : Bs} {x : Nat × Nat} {a : Re} (h : ∀ c, peekM s b = some c → postB c = false) : timesM s b x = (b, x) ∧ timesR s b a = a := by
  unfold timesM timesR
  cases hc : peekM s b with
  | none => exact ⟨rfl, rfl⟩
  | some c =>
    have h1 := h c hc
    have h2 := h1
    simp only [postB, Bool.or_eq_false_iff, decide_eq_false_iff_not] at h2
    dsimp only
    rw [if_neg (by rw [h1]; decide), if_neg h2.1.1, if_neg h2.1.2, if_neg h2.2]
    exact ⟨rfl, rfl⟩
theorem rtimes_yes {s : ByteArray} {b : Bs} {x : Nat × Nat} {c : Nat} (h : peekM s b = some c) (hp : postB c = true) : (timesM s b x).1.pos = b.pos + 1 ∧ (timesM s b x).1.err = b.err := by
  unfold timesM
  rw [h]
  dsimp only
  rw [if_pos hp]
  dsimp only
  constructor <;> (split <;> split <;> rfl)
theorem timesR_at {s : ByteArray} {b : Bs} {c : Nat} {a : Re} (h : peekM s b = some c) : timesR s b a = if c = 42 then .star a else if c = 43 then .plus a else if c = 63 then .opt a else a := by unfold timesR; rw [h]
def rmeas (w : World) (g N : Nat) : Nat := match w.cell? ⟨g, 2, none⟩ with
  | some (.int _ e) => if e = 0 then N - rposAt w g else 0
  | _ => 0
theorem RdrAt.meas {w : World} {g : Nat} {s : ByteArray} {b : Bs} (h : RdrAt w g s b) (N : Nat) : rmeas w g N = if b.err = 0 then N - b.pos else 0 := by
  unfold rmeas
  rw [h.c2, h.posAt]
def PLoop (w0 : World) (g : Nat) (s : ByteArray) (d N : Nat) (r : Bs × (Nat × Nat)) (a : Re) (w : World) : Prop :=
  ∃ (m : Nat) (b : Bs) (p : Nat × Nat) (l : List (List Value)) (acc : Re) (kv : Value) (b' : Bs), m ≤ N ∧ b.pos ≤ s.size + 12 - d ∧ fuelM s b (.parts p) ≤ m ∧ l.length ≤ b.pos ∧
    b'.err = b.err ∧ (b.err = 0 → b'.pos = b.pos) ∧ b'.pos ≤ s.size + 12 - d ∧
    Hid (runM s m (.parts p) d b = r) ∧ Hid (reM s m (.parts p) acc d b = a) ∧ Hid (Clr w0 w g s b' (nodeC 2 noB kv)) ∧ Hid (Un w0 w kv 2 l acc (b.err = 0))
structure Prt (w0 w : World) (kv : Value) (ab : Nat) (cs : List Value) (a : Re) (ok : Prop) : Prop where
  nd : NdAt w ab cs
  one : ∀ y ∈ cs, y.oneCell' = true
  lo : w0.heap.size + 2 ≤ ab
  tree : ok → NA w (fun q => w0.heap.size + 2 ≤ q ∧ q < w.heap.size ∧ kv.ownBlock ≠ some q ∧ q ≠ ab) 0 [cs] a
theorem Prt.keep {w0 w w' : World} {kv : Value} {ab : Nat} {cs : List Value} {a : Re} {ok ok' : Prop} (h : Prt w0 w kv ab cs a ok) (hs : w.heap.size ≤ w'.heap.size) (hk : ∀ q, w0.heap.size + 2 ≤ q → q < w.heap.size → w'.heap[q]? = w.heap[q]?) (o : ok' → ok) : Prt w0 w' kv ab cs a ok' :=
  ⟨h.nd.keep hs (hk ab h.lo h.nd.lt), h.one, h.lo, fun x => ((h.tree (o x)).keep hs fun q hq hlt => hk q hq.1 hlt).mono fun _ hq => ⟨hq.1, Nat.lt_of_lt_of_le hq.2.1 hs, hq.2.2⟩⟩
theorem Prt.below {w0 w w' : World} {kv : Value} {ab : Nat} {cs : List Value} {a : Re} {ok : Prop} (h : Prt w0 w kv ab cs a ok) (hb : Below w.heap.size w w') : Prt w0 w' kv ab cs a ok := h.keep hb.size (fun q _ h2 => hb.block q h2) id
theorem Prt.kr {g : Nat} {w0 w w' : World} {kv : Value} {ab : Nat} {cs : List Value} {a : Re} {ok : Prop} (h : Prt w0 w kv ab cs a ok) (hk : Kr g w w') (hg : g < w0.heap.size) : Prt w0 w' kv ab cs a ok := h.keep hk.size (fun q h1 h2 => hk.block q h2 (by omega)) id
theorem Prt.wrap {w0 w : World} {kv : Value} {ab : Nat} {cs : List Value} {a c : Re} {ok : Prop} (h : Prt w0 w kv ab cs a ok) (k : Int) (t : TypeId) (hown : ∀ q, kv.ownBlock = some q → q < w.heap.size)
    (hf : ∀ (W : World) (P : Nat → Prop) (r : Value), NA W P 0 [cs] a → KidsAt W P r [cs] → NA W P 0 [nodeC k noB r] c) :
    Prt w0 ((w.alloc (.cells cs.toArray t)).setCells ab 0 (nodeC k noB (.slice (some ⟨w.heap.size, 0, none⟩) 1 1))) kv ab (nodeC k noB (.slice (some ⟨w.heap.size, 0, none⟩) 1 1)) c ok := by
  have hb := alloc_below w (.cells cs.toArray t)
  have hs := World.size_alloc w (.cells cs.toArray t)
  have hlt := h.nd.lt
  have hab := h.lo
  have hrd := rd_node (w := w) h.nd.len t
  refine ⟨(h.nd.later hb).stored (nodeC_len _ _ _), nodeC_one _ _ _ rfl, h.lo, fun x => hf _ _ _ ?_ ⟨?_, fun y hy => by rw [List.mem_singleton.1 hy]; exact h.nd.len, ?_, by simp⟩⟩
  · refine (((h.tree x).later hb).keep (w' := (w.alloc (.cells cs.toArray t)).setCells ab 0 (nodeC k noB (.slice (some ⟨w.heap.size, 0, none⟩) 1 1))) (by rw [size_setCells]; exact Nat.le_refl _) (fun q hq _ => heap_setCells _ _ _ hq.2.2.2 _ _)).mono (fun q hq => ⟨hq.1, by rw [size_setCells]; have := hq.2.1; omega, hq.2.2⟩)
  · have e : ([cs] : List (List Value)).flatten = cs := by simp
    rw [e]
    exact rd_keepB hrd (by rw [size_setCells]; exact Nat.le_refl _) (fun q hq _ => heap_setCells _ _ _ (by cases hq; show w.heap.size ≠ ab; omega) _ _)
  · intro q hq
    cases hq
    show w0.heap.size + 2 ≤ w.heap.size ∧ w.heap.size < _ ∧ _ ∧ w.heap.size ≠ ab
    refine ⟨by omega, by rw [size_setCells]; omega, fun e => ?_, by omega⟩
    have h1 : w.heap.size < w.heap.size := hown _ e
    omega
structure Kq (w0 w3 w : World) (ab : Nat) : Prop where
  eq : w3.heap.size = ab
  le : ab ≤ w.heap.size
  kp : ∀ q, w0.heap.size + 2 ≤ q → q < ab → w.heap[q]? = w3.heap[q]?
theorem Kq.below {w0 w3 w w' : World} {ab : Nat} (h : Kq w0 w3 w ab) (hb : Below w.heap.size w w') : Kq w0 w3 w' ab := ⟨h.eq, Nat.le_trans h.le hb.size, fun q h1 h2 => (hb.block q (by have := h.le; omega)).trans (h.kp q h1 h2)⟩
theorem Kq.kr {g : Nat} {w0 w3 w w' : World} {ab : Nat} (h : Kq w0 w3 w ab) (hk : Kr g w w') (hg : g < w0.heap.size) : Kq w0 w3 w' ab := ⟨h.eq, Nat.le_trans h.le hk.size, fun q h1 h2 => (hk.block q (by have := h.le; omega) (by omega)).trans (h.kp q h1 h2)⟩
theorem Kq.puts {w0 w3 w : World} {ab : Nat} (h : Kq w0 w3 w ab) (vs : List Value) : Kq w0 w3 (w.setCells ab 0 vs) ab := ⟨h.eq, by rw [size_setCells]; exact h.le, fun q h1 h2 => (heap_setCells _ _ _ (by omega) _ _).trans (h.kp q h1 h2)⟩
theorem Kq.un {w0 w3 w : World} {ab : Nat} {kv : Value} {md : Nat} {l : List (List Value)} {a : Re} {ok : Prop} (h : Kq w0 w3 w ab) (hu : Un w0 w3 kv md l a ok) : Un w0 w kv md l a ok := hu.keep (by rw [h.eq]; exact h.le) (fun q h1 h2 => h.kp q h1 (by rw [← h.eq]; exact h2))
theorem rtimes_pos (s : ByteArray) (b : Bs) (x : Nat × Nat) (N : Nat) (h1 : b.pos ≤ N) (h2 : s.size ≤ N) : (timesM s b x).1.pos ≤ N := by
  unfold timesM
  split
  · exact h1
  · rename_i c hc
    have := (peekM_some hc).2.1
    split
    · have e : ∀ b f t, (freeM b f t).pos = b.pos := fun _ _ _ => rfl
      dsimp only
      split <;> split <;> simp only [e, nodeM, stepM] <;> omega
    · exact h1
set_option maxHeartbeats 12800000 in
set_option maxRecDepth 100000 in
theorem row_is (n : Nat) (hatom : NdK 114 .atom n) : NdK 109 .row (n + 1) := by
  intro m hm w g s d b h he hd hp _ hs hf
  simp only [fuelM] at hf
  obtain ⟨m, rfl⟩ : ∃ m', m = m' + 2 := ⟨m - 2, by omega⟩
  obtain ⟨r, hr⟩ : ∃ r, runM s (m + 1) (.parts (b.sts.length, b.sts.length)) d (nodeM b) = r := ⟨_, rfl⟩
  obtain ⟨a, ha⟩ : ∃ a, reM s (m + 1) (.parts (b.sts.length, b.sts.length)) .eps d (nodeM b) = a := ⟨_, rfl⟩
  have e1 : runM s (m + 2) .row d b = r := by rw [runM]; exact hr
  have e2 : reM s (m + 2) .row .no d b = a := by rw [reM]; exact ha
  rw [e1, e2]
  have HR0 := Lib.hid hr
  have HA0 := Lib.hid ha
  obtain ⟨b0, hb0⟩ : ∃ b0, nodeM b = b0 := ⟨_, rfl⟩
  have hbp : b0.pos = b.pos := by rw [← hb0]; rfl
  have hbe : b0.err = 0 := by rw [← hb0]; exact he
  have h0 : RdrAt w g s b0 := h.congr hbp.symm (by rw [hbe]; exact he)
  rw [hb0] at HR0 HA0
  have hc := Clr.new h0 2 134
  have HC0 := Lib.hid hc
  have HATOM := Lib.hid hatom
  obtain ⟨i0, hi, hz0, hz1, hz2⟩ := info_parts info_node
  clear hatom hr ha e1 e2 hb0 hc h h0
  go_enter Try.func109, Try.ntmps109
  go_wp2_with (first
    | (with_reducible refine wpList_allocN rfl rfl _ rfl w.heap.size rfl ?_)
    | (with_reducible refine wpList_allocN rfl rfl _ rfl (w.heap.size + 1) (World.size_alloc _ _) ?_)
    | ((with_reducible refine wpList_buildN rfl _ rfl _ rfl (zeroN 2) ?hf ?_); (case hf => exact node_built2))
    | ((with_reducible refine wpList_storeN rfl _ _ rfl _ rfl (w.heap.size + 1) 0 (nodeC 2 noB nilS) ?hx ?hy ?ht (nodeC_len _ _ _) (oneN _ _) ?_); (case hx => rfl); (case hy => rfl); (case ht => exact (by have := there_new (w.alloc (.cells (zeroN 0) 134)) 0 134; rwa [World.size_alloc] at this))))
  refine wp_forget2 (fun W => Clr w W g s b0 (nodeC 2 noB nilS)) HC0.out (fun w1 hw1 => ?_)
  have H1 := Lib.hid hw1
  clear hw1 HC0
  simp only [Act.put, List.setIfInBounds_toArray, List.set_cons_zero, List.set_cons_succ]
  go_loopw [] (fun wr => PLoop w g s d (m + 1) r a wr) (fun wr => rmeas wr g (s.size + 15))
  case atStart => exact ⟨m + 1, b0, _, [], .eps, nilS, b0, Nat.le_refl _, by omega, by simp only [fuelM]; omega, by simp, rfl, fun _ => rfl, by omega, HR0, HA0, H1, Lib.hid (Un.nil w w1 (fun P => .r0) _)⟩
  case round =>
    clear H1 HR0 HA0 hbp hbe b0
    obtain ⟨k, b, p, l, acc, kv, bx, hk, hp, hf, hl, hx1, hx2, hx3, HR, HA, HC, HU⟩ := hrel
    simp only [fuelM] at hf
    obtain ⟨k, rfl⟩ : ∃ k', k = k' + 1 := ⟨k - 1, by omega⟩
    have HR' := HR.out
    have HA' := HA.out
    rw [runM] at HR'
    rw [reM] at HA'
    have hpk := peek_congr (s := s) (b := bx) (c := b) hx1 (fun h0 => hx2 (hx1.symm.trans h0))
    obtain ⟨o, ho⟩ : ∃ o, peekM s bx = o := ⟨_, rfl⟩
    have k1 := next_is wr g s bx o ho HC.out.rdr (by omega)
    have HPK := Lib.hid (hpk.symm.trans ho)
    have HO := Lib.hid ho
    rw [HPK.out] at HR' HA'
    have HR1 := Lib.hid HR'
    have HA1 := Lib.hid HA'
    have HX := Lib.hid (And.intro hx1 hx2)
    clear hpk ho HR' HA' HR HA hx1 hx2
    go_wp2_with fail
    refine k1.mono ?_
    rintro e w2 ⟨rfl, hb2⟩
    have HC2 := Lib.hid (HC.out.below hb2)
    have HU2 := Lib.hid (HU.out.below hb2)
    have HMS : Hid (rmeas wr g (s.size + 15) = if bx.err = 0 then s.size + 15 - bx.pos else 0) := Lib.hid (HC.out.rdr.meas _)
    clear k1 hb2 HC HU
    have HEND : Hid ((b, p) = r → acc = a → ∃ cs' b'', Value.agg (nodeC 2 noB kv).toArray = .agg cs'.toArray ∧ Back w (w2.setCells w.heap.size 0 (nodeC 2 noB kv)) g s d r a cs' b'') := Lib.hid (fun h1 h2 => by
      subst h1 h2
      have hu := HU2.out.puts w.heap.size 0 (nodeC 2 noB kv) (by omega)
      exact ⟨_, bx, rfl, nodeC_len _ _ _, nodeC_one _ _ _ (ownsRow_one hu.own), (HC2.out.done _).1, HX.out.1, hx3, fun h0 => ⟨HX.out.2 (HX.out.1.symm.trans h0), .row (hu.all (HX.out.1.symm.trans h0)) (hu.kids (by omega))⟩, (HC2.out.done _).2⟩)
    have HONE : Hid (∀ y ∈ nodeC 2 noB kv, y.oneCell' = true) := Lib.hid (nodeC_one _ _ _ (ownsRow_one HU2.out.own))
    rcases o with _ | c
    · go_wp2_with (first
      | ((with_reducible refine wpList_loadN rfl _ rfl _ rfl (w.heap.size + 1) 0 ?hx (nodeC 2 noB kv) ?hc (nodeC_len _ _ _) ?_); (case hx => rfl); (case hc => exact HC2.out.nd.at_))
      | ((with_reducible refine wpList_storeN rfl _ _ rfl _ rfl w.heap.size 0 (nodeC 2 noB kv) ?hx ?hy ?ht (nodeC_len _ _ _) HONE.out ?_); (case hx => rfl); (case hy => rfl); (case ht => exact HC2.out.res)))
      refine bodyPost_ret (results_agg1 rfl _ _ w.heap.size (nodeC 2 noB kv) (.struct _) rfl (World.rangeAt_setCells_same _ _ _ _ (by rw [nodeC_len]; exact HC2.out.res)) Try.underlying134 rfl (by rw [nodeC_len]; exact node_size)) rfl ?_
      obtain ⟨cs', b'', e1, e2⟩ := HEND.out HR1.out HA1.out
      exact ⟨cs', b'', by rw [e1], e2⟩
    · by_cases hc : c = 124 ∨ c = 41
      · have HR2 : Hid ((b, p) = r) := Lib.hid (by have := HR1.out; dsimp only at this; rwa [if_pos hc] at this)
        have HA2 : Hid (acc = a) := Lib.hid (by have := HA1.out; dsimp only at this; rwa [if_pos hc] at this)
        clear HR1 HA1
        rcases hc with rfl | rfl
        · go_wp2_with (first
      | ((with_reducible refine wpList_loadN rfl _ rfl _ rfl (w.heap.size + 1) 0 ?hx (nodeC 2 noB kv) ?hc (nodeC_len _ _ _) ?_); (case hx => rfl); (case hc => exact HC2.out.nd.at_))
      | ((with_reducible refine wpList_storeN rfl _ _ rfl _ rfl w.heap.size 0 (nodeC 2 noB kv) ?hx ?hy ?ht (nodeC_len _ _ _) HONE.out ?_); (case hx => rfl); (case hy => rfl); (case ht => exact HC2.out.res)))
          refine bodyPost_ret (results_agg1 rfl _ _ w.heap.size (nodeC 2 noB kv) (.struct _) rfl (World.rangeAt_setCells_same _ _ _ _ (by rw [nodeC_len]; exact HC2.out.res)) Try.underlying134 rfl (by rw [nodeC_len]; exact node_size)) rfl ?_
          obtain ⟨cs', b'', e1, e2⟩ := HEND.out HR2.out HA2.out
          exact ⟨cs', b'', by rw [e1], e2⟩
        · go_wp2_with (first
      | ((with_reducible refine wpList_loadN rfl _ rfl _ rfl (w.heap.size + 1) 0 ?hx (nodeC 2 noB kv) ?hc (nodeC_len _ _ _) ?_); (case hx => rfl); (case hc => exact HC2.out.nd.at_))
      | ((with_reducible refine wpList_storeN rfl _ _ rfl _ rfl w.heap.size 0 (nodeC 2 noB kv) ?hx ?hy ?ht (nodeC_len _ _ _) HONE.out ?_); (case hx => rfl); (case hy => rfl); (case ht => exact HC2.out.res)))
          refine bodyPost_ret (results_agg1 rfl _ _ w.heap.size (nodeC 2 noB kv) (.struct _) rfl (World.rangeAt_setCells_same _ _ _ _ (by rw [nodeC_len]; exact HC2.out.res)) Try.underlying134 rfl (by rw [nodeC_len]; exact node_size)) rfl ?_
          obtain ⟨cs', b'', e1, e2⟩ := HEND.out HR2.out HA2.out
          exact ⟨cs', b'', by rw [e1], e2⟩
      · have hc1 : ((c : Int) == 124) = false := by rw [beq_eq_false_iff_ne]; omega
        have hc2 : ((c : Int) == 41) = false := by rw [beq_eq_false_iff_ne]; omega
        have hn1 : ¬ c = 124 := fun h => hc (.inl h)
        have hn2 : ¬ c = 41 := fun h => hc (.inr h)
        have hn3 : ¬ (c : Int) = 124 := by omega
        have hn4 : ¬ (c : Int) = 41 := by omega
        obtain ⟨hb0, hbs, hbc⟩ := peekM_some HPK.out
        have HBC := Lib.hid hbc
        clear hbc
        have hbx0 : bx.err = 0 := HX.out.1.trans hb0
        have hbxp : bx.pos = b.pos := HX.out.2 hb0
        have ok := runM_ok s k .atom d b hd hp (fun _ => hbs) trivial (by simp only [fuelM]; omega)
        obtain ⟨g1, q1, q2, q3, q4⟩ := ok
        obtain ⟨q5, _⟩ := q4 rfl
        have HR' := HR1.out
        have HA' := HA1.out
        (try dsimp only at HR' HA')
        rw [if_neg hc] at HR' HA'
        have hka := fun W (h : RdrAt W g s bx) => HATOM.out k (by omega) W g s d b (h.congr hbxp (hbx0.trans hb0.symm)) hb0 hd hp (fun _ => ⟨hbs, by rw [← HBC.out]; omega, by rw [← HBC.out]; omega⟩) hs (by simp only [fuelM]; omega)
        obtain ⟨rr, hrr⟩ : ∃ rr, runM s k .atom d b = rr := ⟨_, rfl⟩
        obtain ⟨ra, hra⟩ : ∃ ra, reM s k .atom .no d b = ra := ⟨_, rfl⟩
        rw [hrr] at HR' HA' hka q3 q5 q1 q2
        rw [hra] at HA' hka
        have hgtp := (gd_times s rr.1 rr.2).pos
        have hgtq := rtimes_pos s rr.1 rr.2 (s.size + 12 - d) q3 (by omega)
        have HTY := Lib.hid (fun c (h : peekM s rr.1 = some c) (hp : postB c = true) => rtimes_yes (x := rr.2) h hp)
        have HTN := Lib.hid (fun (h : ∀ c, peekM s rr.1 = some c → postB c = false) => rtimes_no (x := rr.2) (a := ra) h)
        obtain ⟨t, ht⟩ : ∃ t, timesM s rr.1 rr.2 = t := ⟨_, rfl⟩
        obtain ⟨ta, hta⟩ : ∃ ta, timesR s rr.1 ra = ta := ⟨_, rfl⟩
        rw [ht] at HR' HA' hgtp hgtq HTY HTN
        rw [hta] at HA' HTN
        have HTA := Lib.hid hta
        have HR2 := Lib.hid HR'
        have HA2 := Lib.hid HA'
        have hk1 := hka w2 HC2.out.rdr
        clear HR' HA' HR1 HA1 hrr hra ht hta g1 hka HEND HONE hc q1 q2 q4
        go_wp2_with fail
        refine hk1.mono ?_
        rintro e w3 ⟨cs, b1, rfl, hbk⟩
        have HC3 := Lib.hid (HC2.out.stp hbk.rdr hbk.kr)
        have HU3 := Lib.hid (HU2.out.kr hbk.kr HC2.out.gl)
        have HBK := Lib.hid hbk
        have hw3 := HC3.out.nd.lt
        clear hk1 hbk
        have hn3 := NdAt.new w3 0 134
        have hprt : Prt w ((w3.alloc (.cells (zeroN 0) 134)).setCells w3.heap.size 0 cs) kv w3.heap.size cs ra (b1.err = 0) := by
          refine ⟨hn3.stored HBK.out.len, HBK.out.one, by omega, fun h0 => (((HBK.out.tree h0).2).later (alloc_below w3 (.cells (zeroN 0) 134))).keep (by rw [size_setCells]; exact Nat.le_refl _) (fun q hq _ => heap_setCells _ _ _ (by omega) _ _) |>.mono ?_⟩
          rintro q ⟨h1, h2⟩
          have hlt := HC2.out.nd.lt
          refine ⟨by omega, by rw [size_setCells, World.size_alloc]; omega, fun e => ?_, by omega⟩
          have := (ownsRow_at HU2.out.own q e).2
          omega
        have hc4 : Clr w ((w3.alloc (.cells (zeroN 0) 134)).setCells w3.heap.size 0 cs) g s b1 (nodeC 2 noB kv) := by
          have h1 := HC3.out.below (alloc_below w3 (.cells (zeroN 0) 134))
          have hgl := h1.gl
          exact ⟨h1.rdr.kept (by rw [size_setCells]; exact Nat.le_refl _) (heap_setCells _ _ _ (by omega) _ _), h1.nd.keep (by rw [size_setCells]; exact Nat.le_refl _) (heap_setCells _ _ _ (by omega) _ _), there_kept h1.res (heap_setCells _ _ _ (by omega) _ _), h1.kr.news _ (by omega) _ _, h1.gl⟩
        have hu4 : Kq w w3 ((w3.alloc (.cells (zeroN 0) 134)).setCells w3.heap.size 0 cs) w3.heap.size := (show Kq w w3 (w3.alloc (.cells (zeroN 0) 134)) w3.heap.size from ⟨rfl, (alloc_below w3 (.cells (zeroN 0) 134)).size, fun q _ h2 => (alloc_below w3 (.cells (zeroN 0) 134)).block q h2⟩).puts cs
        have HU3 := Lib.hid (HU3.out.ok (ok' := True) (fun _ => hb0))
        have HPR := Lib.hid hprt
        have HC4 := Lib.hid hc4
        have HU4 := Lib.hid hu4
        have HTH : Hid ((w3.alloc (.cells (zeroN 0) 134)).there w3.heap.size 0 258) := Lib.hid hn3.th
        clear hprt hc4 hu4 hn3 HC3 HC2 HU2
        go_upto_region 6 with (first
          | (with_reducible refine wpList_allocN rfl rfl _ rfl w3.heap.size rfl ?_)
          | ((with_reducible refine wpList_storeN rfl _ _ rfl _ rfl w3.heap.size 0 cs ?hx ?hy ?ht HBK.out.len HBK.out.one ?_); (case hx => rfl); (case hy => rfl); (case ht => exact HTH.out)))
        generalize ((w3.alloc (.cells (zeroN 0) 134)).setCells w3.heap.size 0 cs) = w4 at *
        generalize w3.heap.size = ab at *
        have hbp1 := HBK.out.pos
        have HBE : Hid (b1.err = rr.1.err ∧ (b1.err = 0 → b1.pos = rr.1.pos)) := Lib.hid ⟨HBK.out.err, fun h0 => (HBK.out.tree h0).1⟩
        have hcl := HBK.out.len
        clear HBK HTH
        obtain ⟨o2, ho2⟩ : ∃ o2, peekM s b1 = o2 := ⟨_, rfl⟩
        have k2 := next_is w4 g s b1 o2 ho2 HC4.out.rdr (by omega)
        have HPK2 := Lib.hid ((peek_congr (s := s) (b := b1) (c := rr.1) HBE.out.1 HBE.out.2).symm.trans ho2)
        have HO2 := Lib.hid ho2
        clear ho2
        go_wp2_with fail
        refine k2.mono ?_
        rintro e w5 ⟨rfl, hb5⟩
        have HC5 := Lib.hid (HC4.out.below hb5)
        have HU5 := Lib.hid (HU4.out.below hb5)
        have HP5 : Hid (Prt w w5 kv ab cs ra (b1.err = 0)) := Lib.hid (HPR.out.below hb5)
        clear k2 hb5 HC4 HU4 HPR
        obtain ⟨PB, hPB⟩ : ∃ PB, (match o2 with | none => false | some c => postB c) = PB := ⟨_, rfl⟩
        have HPB := Lib.hid hPB
        clear hPB
        go_upto_region 7 with fail
        go_cut [47] from 11 to 68 (fun v wx => v = .bool PB ∧ wx = w5)
        case first =>
          rcases o2 with _ | c2
          · simp only [Option.getD_none, Option.isSome_none]
            go_wp2
            go_meet
            exact ⟨by rw [← HPB.out], rfl⟩
          · simp only [Option.getD_some, Option.isSome_some]
            by_cases g1 : c2 = 42
            · subst g1
              go_wp2
              go_meet
              exact ⟨by rw [← HPB.out]; rfl, rfl⟩
            · have g1b : ((c2 : Int) == 42) = false := by rw [beq_eq_false_iff_ne]; omega
              by_cases g2 : c2 = 43
              · subst g2
                go_wp2
                go_meet
                exact ⟨by rw [← HPB.out]; rfl, rfl⟩
              · have g2b : ((c2 : Int) == 43) = false := by rw [beq_eq_false_iff_ne]; omega
                by_cases g3 : c2 = 63
                · subst g3
                  go_wp2
                  go_meet
                  exact ⟨by rw [← HPB.out]; rfl, rfl⟩
                · have g3b : ((c2 : Int) == 63) = false := by rw [beq_eq_false_iff_ne]; omega
                  go_wp2
                  go_meet
                  exact ⟨by rw [← HPB.out]; simp [postB, g1, g2, g3], rfl⟩
        case rest =>
        obtain ⟨rfl, rfl⟩ := hcut
        go_upto_if 47 with fail
        go_cut [] from 11 to 68 (fun wx => ∃ (cs2 : List Value) (b3 : Bs), b3.err = t.1.err ∧ (b3.err = 0 → b3.pos = t.1.pos) ∧ b3.pos ≤ s.size + 12 - d ∧ cs2.length = 258 ∧ Hid (Clr w wx g s b3 (nodeC 2 noB kv)) ∧ Hid (Kq w w3 wx ab) ∧ Hid (Prt w wx kv ab cs2 ta (b3.err = 0)))
        case first =>
          cases PB with
          | false =>
            have hno : ∀ c, peekM s rr.1 = some c → postB c = false := fun c h => by
              rw [HPK2.out] at h
              subst h
              exact HPB.out
            obtain ⟨e1, e2⟩ := HTN.out hno
            go_wp2
            go_meet
            refine ⟨cs, b1, ?_, ?_, hbp1, hcl, HC5, HU5, ?_⟩
            · rw [e1]; exact HBE.out.1
            · rw [e1]; exact HBE.out.2
            · rw [e2]; exact HP5
          | true =>
            rcases o2 with _ | c2
            · exact absurd HPB.out (by simp)
            · have hPB := HPB.out
              dsimp only at hPB
              obtain ⟨e1, e2⟩ := HTY.out c2 HPK2.out hPB
              obtain ⟨hb10, hb1s, -⟩ := peekM_some HO2.out
              have HB1P := Lib.hid (HBE.out.2 hb10)
              have c1 := HC5.out.rdr.c1
              have f1 := there_free HC5.out.rdr.th 1 (by omega)
              have HTA2 : Hid (ta = if c2 = 42 then .star ra else if c2 = 43 then .plus ra else if c2 = 63 then .opt ra else ra) := Lib.hid (HTA.out.symm.trans (timesR_at HPK2.out))
              have hp3 : c2 = 42 ∨ c2 = 43 ∨ c2 = 63 := by simp only [postB, Bool.or_eq_true, decide_eq_true_eq] at hPB; omega
              have HE1 : Hid ((stepM b1).err = t.1.err ∧ (stepM b1).pos = t.1.pos) := Lib.hid ⟨by rw [e2]; exact HBE.out.1, by rw [e1]; simp only [stepM]; rw [HB1P.out]⟩
              clear hPB e1 e2
              go_upto_region 9 with fail
              refine wp_forget2 (fun W => Clr w W g s (stepM b1) (nodeC 2 noB kv) ∧ Kq w w3 W ab ∧ Prt w W kv ab cs ra (b1.err = 0)) ⟨HC5.out.step, HU5.out.kr (Kr.set g _ 1 _) HC5.out.gl, HP5.out.kr (Kr.set g _ 1 _) HC5.out.gl⟩ (fun w6 hw6 => ?_)
              have HC6 := Lib.hid hw6.1
              have HU6 := Lib.hid hw6.2.1
              have HP6 := Lib.hid hw6.2.2
              clear hw6 c1 f1 HC5 HU5 HP5 HTY HTN
              have HTH : Hid ((w6.alloc (.cells cs.toArray 134)).there ab 0 258) := Lib.hid (HP6.out.nd.later (alloc_below w6 (.cells cs.toArray 134))).th
              have hab := HP6.out.lo
              rcases hp3 with rfl | rfl | rfl
              · have HTA3 : Hid (ta = Re.star ra) := Lib.hid (HTA2.out.trans rfl)
                go_upto_region 14 with fail
                go_wp2_with (first
                  | ((with_reducible refine wpList_loadN rfl _ rfl _ rfl ab 0 ?hx cs ?hc hcl ?_); (case hx => rfl); (case hc => exact HP6.out.nd.at_))
                  | ((with_reducible refine wpList_buildSlice rfl 132 134 1 _ rfl cs.toArray i0 (.agg (zeroN 0)) Try.underlying132 hi hz0 ?hs ?hp ?hf ?_); (case hs => rw [hz1]; decide); (case hp => rw [hz1]; decide); (case hf => rw [hz1]; exact fill_one _ _ cs hcl rfl))
                  | ((with_reducible refine wpList_buildN rfl _ rfl _ rfl (nodeC 3 noB (.slice (some ⟨w6.heap.size, 0, none⟩) 1 1)).toArray ?hf ?_); (case hf => exact built_kids _ _ _ _ _ _ _ rfl rfl))
                  | ((with_reducible refine wpList_storeN rfl _ _ rfl _ rfl ab 0 (nodeC 3 noB (.slice (some ⟨w6.heap.size, 0, none⟩) 1 1)) ?hx ?hy ?ht (nodeC_len _ _ _) (nodeC_one _ _ _ rfl) ?_); (case hx => rfl); (case hy => rfl); (case ht => exact HTH.out)))
                go_meet
                refine ⟨nodeC 3 noB (.slice (some ⟨w6.heap.size, 0, none⟩) 1 1), stepM b1, HE1.out.1, fun _ => HE1.out.2, by rw [HE1.out.2]; exact hgtq, nodeC_len _ _ _, ?_, ?_, ?_⟩
                · exact Lib.hid (by
                    have h1 := HC6.out.below (alloc_below w6 (.cells cs.toArray 134))
                    have hgl := h1.gl
                    exact ⟨h1.rdr.kept (by rw [size_setCells]; exact Nat.le_refl _) (heap_setCells _ _ _ (by omega) _ _), h1.nd.keep (by rw [size_setCells]; exact Nat.le_refl _) (heap_setCells _ _ _ (by omega) _ _), there_kept h1.res (heap_setCells _ _ _ (by omega) _ _), h1.kr.news _ (by omega) _ _, h1.gl⟩)
                · exact Lib.hid ((HU6.out.below (alloc_below w6 (.cells cs.toArray 134))).puts _)
                · rw [HTA3.out]
                  exact Lib.hid ((HP6.out.wrap 3 134 (fun q hq => by have h1 := (ownsRow_at HU3.out.own q hq).2; have h2 := HU6.out.eq; have h3 := HU6.out.le; omega) (fun W P r h1 h2 => .star h1 h2)).keep (Nat.le_refl _) (fun _ _ _ => rfl) (fun h0 => h0))
              · have HTA3 : Hid (ta = Re.plus ra) := Lib.hid (HTA2.out.trans rfl)
                go_upto_region 14 with fail
                go_wp2_with (first
                  | ((with_reducible refine wpList_loadN rfl _ rfl _ rfl ab 0 ?hx cs ?hc hcl ?_); (case hx => rfl); (case hc => exact HP6.out.nd.at_))
                  | ((with_reducible refine wpList_buildSlice rfl 132 134 1 _ rfl cs.toArray i0 (.agg (zeroN 0)) Try.underlying132 hi hz0 ?hs ?hp ?hf ?_); (case hs => rw [hz1]; decide); (case hp => rw [hz1]; decide); (case hf => rw [hz1]; exact fill_one _ _ cs hcl rfl))
                  | ((with_reducible refine wpList_buildN rfl _ rfl _ rfl (nodeC 4 noB (.slice (some ⟨w6.heap.size, 0, none⟩) 1 1)).toArray ?hf ?_); (case hf => exact built_kids _ _ _ _ _ _ _ rfl rfl))
                  | ((with_reducible refine wpList_storeN rfl _ _ rfl _ rfl ab 0 (nodeC 4 noB (.slice (some ⟨w6.heap.size, 0, none⟩) 1 1)) ?hx ?hy ?ht (nodeC_len _ _ _) (nodeC_one _ _ _ rfl) ?_); (case hx => rfl); (case hy => rfl); (case ht => exact HTH.out)))
                go_meet
                refine ⟨nodeC 4 noB (.slice (some ⟨w6.heap.size, 0, none⟩) 1 1), stepM b1, HE1.out.1, fun _ => HE1.out.2, by rw [HE1.out.2]; exact hgtq, nodeC_len _ _ _, ?_, ?_, ?_⟩
                · exact Lib.hid (by
                    have h1 := HC6.out.below (alloc_below w6 (.cells cs.toArray 134))
                    have hgl := h1.gl
                    exact ⟨h1.rdr.kept (by rw [size_setCells]; exact Nat.le_refl _) (heap_setCells _ _ _ (by omega) _ _), h1.nd.keep (by rw [size_setCells]; exact Nat.le_refl _) (heap_setCells _ _ _ (by omega) _ _), there_kept h1.res (heap_setCells _ _ _ (by omega) _ _), h1.kr.news _ (by omega) _ _, h1.gl⟩)
                · exact Lib.hid ((HU6.out.below (alloc_below w6 (.cells cs.toArray 134))).puts _)
                · rw [HTA3.out]
                  exact Lib.hid ((HP6.out.wrap 4 134 (fun q hq => by have h1 := (ownsRow_at HU3.out.own q hq).2; have h2 := HU6.out.eq; have h3 := HU6.out.le; omega) (fun W P r h1 h2 => .plus h1 h2)).keep (Nat.le_refl _) (fun _ _ _ => rfl) (fun h0 => h0))
              · have HTA3 : Hid (ta = Re.opt ra) := Lib.hid (HTA2.out.trans rfl)
                go_upto_region 14 with fail
                go_wp2_with (first
                  | ((with_reducible refine wpList_loadN rfl _ rfl _ rfl ab 0 ?hx cs ?hc hcl ?_); (case hx => rfl); (case hc => exact HP6.out.nd.at_))
                  | ((with_reducible refine wpList_buildSlice rfl 132 134 1 _ rfl cs.toArray i0 (.agg (zeroN 0)) Try.underlying132 hi hz0 ?hs ?hp ?hf ?_); (case hs => rw [hz1]; decide); (case hp => rw [hz1]; decide); (case hf => rw [hz1]; exact fill_one _ _ cs hcl rfl))
                  | ((with_reducible refine wpList_buildN rfl _ rfl _ rfl (nodeC 5 noB (.slice (some ⟨w6.heap.size, 0, none⟩) 1 1)).toArray ?hf ?_); (case hf => exact built_kids _ _ _ _ _ _ _ rfl rfl))
                  | ((with_reducible refine wpList_storeN rfl _ _ rfl _ rfl ab 0 (nodeC 5 noB (.slice (some ⟨w6.heap.size, 0, none⟩) 1 1)) ?hx ?hy ?ht (nodeC_len _ _ _) (nodeC_one _ _ _ rfl) ?_); (case hx => rfl); (case hy => rfl); (case ht => exact HTH.out)))
                go_meet
                refine ⟨nodeC 5 noB (.slice (some ⟨w6.heap.size, 0, none⟩) 1 1), stepM b1, HE1.out.1, fun _ => HE1.out.2, by rw [HE1.out.2]; exact hgtq, nodeC_len _ _ _, ?_, ?_, ?_⟩
                · exact Lib.hid (by
                    have h1 := HC6.out.below (alloc_below w6 (.cells cs.toArray 134))
                    have hgl := h1.gl
                    exact ⟨h1.rdr.kept (by rw [size_setCells]; exact Nat.le_refl _) (heap_setCells _ _ _ (by omega) _ _), h1.nd.keep (by rw [size_setCells]; exact Nat.le_refl _) (heap_setCells _ _ _ (by omega) _ _), there_kept h1.res (heap_setCells _ _ _ (by omega) _ _), h1.kr.news _ (by omega) _ _, h1.gl⟩)
                · exact Lib.hid ((HU6.out.below (alloc_below w6 (.cells cs.toArray 134))).puts _)
                · rw [HTA3.out]
                  exact Lib.hid ((HP6.out.wrap 5 134 (fun q hq => by have h1 := (ownsRow_at HU3.out.own q hq).2; have h2 := HU6.out.eq; have h3 := HU6.out.le; omega) (fun W P r h1 h2 => .opt h1 h2)).keep (Nat.le_refl _) (fun _ _ _ => rfl) (fun h0 => h0))
        case rest =>
          obtain ⟨cs2, b3, h1, h2, h3, hcl2, HC6, HQ6, HP6⟩ := hcut
          have HU6 := Lib.hid (HQ6.out.un HU3.out)
          clear HQ6
          have c257 := HC6.out.nd.cell (nodeC_kids 2 noB kv)
          have HB7 := Lib.hid (alloc_below wc (.cells cs2.toArray 134))
          have HC7 := Lib.hid (HC6.out.below HB7.out)
          have HU7 := Lib.hid (HU6.out.below HB7.out)
          have HP7 := Lib.hid (HP6.out.below HB7.out)
          have HRD := Lib.hid (rd_node (w := wc) hcl2 134)
          have HBS : Hid (w.heap.size + 2 ≤ (wc.alloc (.cells cs2.toArray 134)).heap.size) := Lib.hid (by have := HC7.out.nd.lt; omega)
          have hl200 : l.length ≤ 200 := by omega
          clear HC5 HU5 HP5
          go_wp2_with (first
            | ((with_reducible refine wpList_loadN rfl _ rfl _ rfl ab 0 ?hx cs2 ?hc hcl2 ?_); (case hx => rfl); (case hc => exact HP6.out.nd.at_))
            | ((with_reducible refine wpList_buildSlice rfl 132 134 1 _ rfl cs2.toArray i0 (.agg (zeroN 0)) Try.underlying132 hi hz0 ?hs ?hp ?hf ?_); (case hs => rw [hz1]; decide); (case hp => rw [hz1]; decide); (case hf => rw [hz1]; exact fill_one _ _ cs2 hcl2 rfl))
            | (at_builtin; (refine wpList_append_rd2 rfl (.tmp 64) (.tmp 66) 132 rfl (w.heap.size + 2) 134 i0 (.agg (zeroN 0)) 258 288 Try.underlying132 hi hz0 hz1 hz2 (zeroN_size 0) (by decide) kv l.length l.flatten rfl HU7.out.own _ 1 cs2 rfl HRD.out HP6.out.one (by unfold maxLen; omega) (by omega) HBS.out ?_); intro kv' w8 hown hgrow hor; obtain ⟨ka, kc, rfl, -, -⟩ := RdAt.shape (RdAt.own hown); have hc8 := HC7.out.grown hgrow (fun q hq => (ownsRow_at HU7.out.own q hq).1); have c8 := hc8.nd.cell (nodeC_kids 2 noB kv); have f8 := hc8.nd.free (j := 257) (by omega); have HC8 := Lib.hid hc8; have HU8 := Lib.hid (HU7.out.app (ok' := t.1.err = 0) (b := ta) hown hgrow hor ⟨hcl2, HP6.out.one⟩ (fun _ => trivial) (fun h0 => (HP7.out.tree (h1.trans h0)).mono (fun q hq => ⟨hq.1, hq.2.1, hq.2.2.1⟩)) (fun W P h1 h2 => .r1 h1 h2)); clear hc8 hown hgrow hor))
          have HC9 : Hid (Clr w (w8.setCell ⟨w.heap.size + 1, 257, none⟩ (.slice ka (l.length + 1) kc)) g s b3 (nodeC 2 noB (.slice ka (l.length + 1) kc))) := Lib.hid (by
            have := HC8.out.put 257 (.slice ka (l.length + 1) kc) (by omega)
            rwa [nodeC_setK] at this)
          (try simp only [Act.put, List.setIfInBounds_toArray, List.set_cons_zero, List.set_cons_succ])
          go_roundw
          case rel => exact ⟨k, freeM t.1 p.2 t.2.1, (p.1, t.2.2), l ++ [cs2], .cat acc ta, (.slice ka (l.length + 1) kc), b3, by omega, hgtq, by simp only [fuelM, freeM]; omega, by rw [List.length_append]; simp only [freeM, List.length_singleton]; omega, h1, fun h0 => h2 (h1.trans h0), h3, HR2, HA2, HC9, Lib.hid (HU8.out.put _ _ _ (by omega))⟩
          case measure =>
            rw [HC9.out.rdr.meas, HMS.out, if_pos hbx0]
            split
            · rename_i h0; have := h2 h0; omega
            · omega
end Go.Proofs.Ytipnhpfpppblhaa

